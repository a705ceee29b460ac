/- A disk in memory; Broken, Size, put. -/
import Derived.Test.YtnlkjhhocehhaaaRow
import Derived.Test.YtnlkjhhocehhaaaLate
namespace Go.Proofs.Ytnlkjhhocehhaaa
set_option linter.unusedVariables false
open Go Go.RowKit Go.Proofs Sha
structure Dk (w W : World) (d g n : Nat) (vs : List Value) (l : List (List UInt8)) (br : Bool) : Prop where
  blk : Blk W d 117 #[.slice (some ⟨g, 0, none⟩) n n, .bool br]
  arr : Blk W g 22 vs.toArray
  n1 : vs.length = n
  n2 : l.length = n
  own : ∀ i, i < n → Own W 5 1 (vs.getD i undef) (l.getD i []).length (byteVals (l.getD i []))
  dis : ∀ i j, i < n → j < n → i ≠ j → ∀ k, rowOf (vs.getD i undef) k → ¬ rowOf (vs.getD j undef) k
  dnew : w.heap.size ≤ d ∧ w.heap.size ≤ g
  rnew : ∀ i, i < n → ∀ k, rowOf (vs.getD i undef) k → w.heap.size ≤ k
  bel : Below w.heap.size w W
abbrev dP (d : Nat) : Value := .pointer (some ⟨d, 0, none⟩)
section
variable {w W W' : World} {d g n : Nat} {vs : List Value} {l : List (List UInt8)} {br : Bool}
theorem Dk.keep (h : Dk w W d g n vs l br) (hb : Below W.heap.size W W') : Dk w W' d g n vs l br :=
  ⟨h.blk.below hb h.blk.lt, h.arr.below hb h.arr.lt, h.n1, h.n2, fun i hi => Own.fr (h.own i hi) (Fr.of_below hb nob) (fun _ h => h.elim), h.dis, h.dnew, h.rnew, h.bel.trans (hb.mono h.bel.size)⟩
theorem Dk.cell (h : Dk w W d g n vs l br) (i : Nat) (hi : i < n) : W.cell? ⟨g, i, none⟩ = some (vs.getD i undef) := by
  rw [h.arr.cell]; simp [show i < vs.length by rw [h.n1]; exact hi]
/-- All blocks of a disk. -/
def dfoot (d g n : Nat) (vs : List Value) : Nat → Prop := fun k => k = d ∨ k = g ∨ ∃ i, i < n ∧ rowOf (vs.getD i undef) k
theorem Dk.foot_ge (h : Dk w W d g n vs l br) : ∀ k, dfoot d g n vs k → w.heap.size ≤ k := fun k hk => by
  rcases hk with rfl | rfl | ⟨i, hi, hk⟩
  · exact h.dnew.1
  · exact h.dnew.2
  · exact h.rnew i hi k hk
theorem Dk.dg (h : Dk w W d g n vs l br) : d ≠ g := h.blk.ne_ h.arr (by decide)
theorem Dk.row_d (h : Dk w W d g n vs l br) (i : Nat) (hi : i < n) : ¬ rowOf (vs.getD i undef) d := Own.blk_ne (h.own i hi) h.blk (by decide)
theorem Dk.row_g (h : Dk w W d g n vs l br) (i : Nat) (hi : i < n) : ¬ rowOf (vs.getD i undef) g := Own.blk_ne (h.own i hi) h.arr (by decide)
end
theorem broken_any {w W : World} {d g n : Nat} {vs : List Value} {l : List (List UInt8)} {br : Bool} (h : Dk w W d g n vs l br) : Calls Try.prog 56 #[dP d] W fun e w' => e = .returned (.bool br) ∧ W = w' := by
  have hc : W.cell? ⟨d, 1, none⟩ = some (.bool br) := h.blk.cell 1
  clear h
  go_enter Try.func56, Try.ntmps56
  go_wp2_with fail
  go_ret
  exact ⟨rfl, rfl⟩
theorem broken_nil (W : World) : Calls Try.prog 56 #[.pointer none] W fun e w' => e = .returned (.bool true) ∧ W = w' := by
  go_enter Try.func56, Try.ntmps56
  go_wp2_with fail
  go_ret
  exact ⟨rfl, rfl⟩
set_option maxRecDepth 100000 in
theorem size_any {w W : World} {d g n : Nat} {vs : List Value} {l : List (List UInt8)} {br : Bool} (h : Dk w W d g n vs l br) (k : Nat) (hk : k < n) (hn : n ≤ 100) : Calls Try.prog 53 #[dP d, .int .i64 (k : Int)] W fun e w' => e = .returned (.int .i64 ((l.getD k []).length : Int)) ∧ W = w' := by
  have hc : W.cell? ⟨d, 0, none⟩ = some (.slice (some ⟨g, 0, none⟩) n n) := h.blk.cell 0
  have hck := h.cell k hk
  obtain ⟨A, c, hv, -, -⟩ := (h.own k hk).shape
  rw [hv] at hck
  have hk0 : (0 : Int) ≤ (k : Int) := by omega
  have hd1 : decide ((k : Int) < 0) = false := decide_eq_false (by omega)
  have hd2 : decide ((n : Int) ≤ (k : Int)) = false := decide_eq_false (by omega)
  have hd3 : decide (n ≤ k) = false := decide_eq_false (by omega)
  have hkn : (k : Int) < (n : Int) := by omega
  obtain ⟨m, hm⟩ : ∃ m, m = (l.getD k []).length := ⟨_, rfl⟩
  rw [← hm] at hck ⊢
  clear h hv hm
  go_enter Try.func53, Try.ntmps53
  go_wp2_with fail
  go_ret
  exact ⟨rfl, rfl⟩
def PutTo (w : World) (d g n : Nat) (vs : List Value) (l : List (List UInt8)) (br : Bool) (k : Nat) (y : List UInt8) (W W' : World) : Prop :=
  ∃ v', Dk w W' d g n (vs.set k v') (l.set k (l.getD k [] ++ y)) br ∧ Fr (fun j => j = g ∨ rowOf (vs.getD k undef) j) W W' ∧ ∀ j, rowOf v' j → rowOf (vs.getD k undef) j ∨ W.heap.size ≤ j
set_option maxRecDepth 100000 in
set_option maxHeartbeats 4000000 in
theorem put_any {w W : World} {d g n : Nat} {vs : List Value} {l : List (List UInt8)} {br : Bool} (h : Dk w W d g n vs l br) (k : Nat) (hk : k < n) (hn : n ≤ 100) (A : Option Addr) (c : Nat) (x : List UInt8) (mo : Nat)
    (hx : x.length ≤ 4000) (hc : x.length ≤ c) (hcm : c ≤ maxLen) (hby : Bytes W A x) (hA : A = none → c = 0) (hmo : mo ≤ 10000) (hl : (l.getD k []).length ≤ 200000) :
    Calls Try.prog 82 #[dP d, .agg #[.int .i64 (k : Int), .slice A x.length c], .int .i64 (mo : Int)] W fun e W' => e = .returned (.tuple #[]) ∧ PutTo w d g n vs l br k ((recB x).take mo) W W' := by
  obtain ⟨i0, hi0, hz0, hz1, hz2⟩ := info_parts info5
  obtain ⟨W1, hW1⟩ : ∃ W1, W1 = W.alloc (.cells #[.int .i64 (k : Int), .slice A x.length c] 73) := ⟨_, rfl⟩
  have hB1 : Below W.heap.size W W1 := by rw [hW1]; exact (Below.refl _ W).alloc (Nat.le_refl _) _
  have hbx : Blk W1 W.heap.size 73 #[.int .i64 (k : Int), .slice A x.length c] := by rw [hW1]; exact Blk.new _ _ _
  have HR := record_any x A c W1 hx hc hcm (hby.keep hB1) hA
  rw [hW1] at HR
  have HR := Lib.hid HR
  have H := Lib.hid h
  have HB1 := Lib.hid hB1
  have HBX := Lib.hid hbx
  have HW := Lib.hid hW1
  obtain ⟨m, hm⟩ : ∃ m, m = x.length := ⟨_, rfl⟩
  have hml : (recB x).length = 6 + m := by rw [length_recB, hm]
  have HML := Lib.hid hml
  rw [← hm] at hx hc ⊢
  have HM := Lib.hid hm
  clear h hB1 hbx hW1 hby hml
  go_enter Try.func82, Try.ntmps82
  go_wp2_with (first
    | (go_at_call 48
       rw [HM.out]
       refine HR.out.mono ?_
       rintro e W2 ⟨v6, rfl, hown, hrow, hb2⟩
       rw [← HW.out] at hb2 hrow
       obtain ⟨A6, c6, hv6, hc61, hc62⟩ := hown.shape
       rw [HML.out] at hv6 hc61
       subst hv6)
    | fail)
  have hB2 : Below W.heap.size W W2 := HB1.out.trans (hb2.mono HB1.out.size)
  have hD2 := H.out.keep hB2
  have hbx2 := HBX.out.below hb2 HBX.out.lt
  obtain ⟨u, hu⟩ : ∃ u, u = vs.getD k undef := ⟨_, rfl⟩
  have hcd : W2.cell? ⟨d, 0, none⟩ = some (.slice (some ⟨g, 0, none⟩) n n) := hD2.blk.cell 0
  have hck := hD2.cell k hk
  have hcb : W2.cell? ⟨W.heap.size, 0, none⟩ = some (.int .i64 (k : Int)) := hbx2.cell 0
  have howu := hD2.own k hk
  have hud := hD2.row_d k hk
  have hug := hD2.row_g k hk
  have hub : ¬ rowOf (vs.getD k undef) W.heap.size := Own.blk_ne howu hbx2 (by decide)
  rw [← hu] at hck howu hud hug hub
  have hld : d < W2.heap.size := hD2.blk.lt
  have hlg : g < W2.heap.size := hD2.arr.lt
  have hlb : W.heap.size < W2.heap.size := hbx2.lt
  obtain ⟨gb, hgb⟩ : ∃ gb, gb = W.heap.size := ⟨_, rfl⟩
  have hHb := hgb
  rw [← hgb] at hcb hub hlb ⊢
  have HU := Lib.hid hu
  have HD2 := Lib.hid hD2
  have HB2 := Lib.hid hB2
  have HOW := Lib.hid howu
  have HO6 := Lib.hid hown
  have HR6 := Lib.hid hrow
  have HGB := Lib.hid hgb
  have hk0 : (0 : Int) ≤ (k : Int) := by omega
  have hkn : (k : Int) < (n : Int) := by omega
  have hxl : x.length ≤ 4000 := by rw [← HM.out]; exact hx
  clear hb2 hown hrow hB2 hD2 hbx2 howu hu hgb hHb HB1 HBX HR HW
  refine wp_region_late (rowOf u) 20 1 1 (by kernel_rfl) (by kernel_rfl) rfl ?_
  simp only [List.take_succ_cons, List.take_zero, List.drop_succ_cons, List.drop_zero]
  repeat (go_big_quiet_step (fail))
  refine wpQuiet_nil ?_
  obtain ⟨t, ht⟩ : ∃ t, t = min mo (6 + x.length) := ⟨_, rfl⟩
  have ht2 : (min (mo : Int) (6 + (x.length : Int))).toNat = t := by omega
  have htl : ((recB x).take t).length = t := by rw [List.length_take, length_recB]; omega
  have hte : (recB x).take t = (recB x).take mo := by
    rw [ht]
    rcases Nat.le_total mo (6 + x.length) with h | h
    · rw [Nat.min_eq_left h]
    · rw [Nat.min_eq_right h, List.take_of_length_le (by rw [length_recB]; exact Nat.le_refl _), List.take_of_length_le (by rw [length_recB]; exact h)]
  have ht4 : t ≤ 4006 := by omega
  rw [ht2]
  have hs6 : Bytes W2.drew A6 ((recB x).take t) := by
    have h6 := HO6.out
    have hL : (recB x).length = 6 + x.length := length_recB x
    rw [hL, HM.out] at h6
    have h7 : Src W2 1 A6 (6 + x.length) (byteVals (recB x)) := Src.of_own h6
    have h8 : Bytes W2 A6 (recB x) := by unfold Bytes; rw [hL]; exact h7
    exact (h8.keep (Below.refl _ W2).drew).take t
  have ho2 : Own W2.drew 5 1 u (l.getD k []).length (byteVals (l.getD k [])) := Own.fr HOW.out (Fr.refl nob W2).drew (fun _ h => h.elim)
  have HS6 : Hid (Src W2.drew 1 A6 t (byteVals ((recB x).take t))) := Lib.hid (by unfold Bytes at hs6; rwa [htl] at hs6)
  have HO2 := Lib.hid ho2
  obtain ⟨y, hy⟩ : ∃ y, y = (recB x).take t := ⟨_, rfl⟩
  have HYY : Hid (y = (recB x).take mo) := Lib.hid (by rw [hy, hte])
  rw [← hy] at HS6 htl
  obtain ⟨r, hr⟩ : ∃ r, r = l.getD k [] := ⟨_, rfl⟩
  rw [← hr] at HO2 hl
  have HRR := Lib.hid hr
  have HTL := Lib.hid htl
  clear ht ht2 hte hs6 ho2 hy hr htl
  refine wpKeep_step rfl (fun K hK => ?_)
  refine wp_append_o _ (.tmp 27) (.tmp 33) 22 (by rfl) 5 i0 (.int .u8 0) 1 1 Try.underlying22 hi0 hz0 hz1 hz2 (by rfl) (by omega) u r.length (byteVals r) (by rfl) HO2.out A6 t c6 (byteVals y) (by rfl) HS6.out (byteVals_one _) (by simp only [maxLen]; omega) (by omega) ?_
  intro v3 W3 hown3 hf3 hr3
  have hF3 : Fr (rowOf u) W2 W3 := (Fr.refl _ W2).drew.trans hf3
  refine hK _ _ hF3 ?_
  clear hK
  refine wpKeep_nil ?_
  have hown3' : Own W3 5 1 v3 (r ++ y).length (byteVals (r ++ y)) := by rw [List.length_append, byteVals_append, HTL.out]; exact hown3
  obtain ⟨A3, c3, hv3, -, -⟩ := hown3'.shape
  have harr3 := HD2.out.arr.fr hF3 hug
  have hcg : W3.cell? ⟨g, k, none⟩ = some u := by
    have := harr3.cell k
    rw [this, HU.out]
    simp [show k < vs.length by rw [HD2.out.n1]; exact hk]
  have hfg := harr3.frozen k
  subst hv3
  have HF3 := Lib.hid hF3
  have HO3 := Lib.hid hown3'
  have HR3 := Lib.hid hr3
  have HA3 := Lib.hid harr3
  clear hF3 hown3' hr3 harr3 hf3 hown3
  try simp only [Act.put, List.setIfInBounds_toArray, List.set_cons_zero, List.set_cons_succ]
  go_wp2_with fail
  refine NoPan.normal ?_
  go_wp2_with fail
  go_end0
  have h := HD2.out
  have hsz3 := HF3.out.size
  have hszW := HB2.out.size
  have hrow : ∀ q, rowOf (.slice A3 (r ++ y).length c3) q → rowOf u q ∨ W2.heap.size ≤ q := HR3.out
  have hvg : ¬ rowOf (.slice A3 (r ++ y).length c3) g := fun hq => (hrow g hq).elim hug (fun h => by omega)
  have hS : ∀ v : Value, Fr (one g) W3 (W3.setCell ⟨g, k, none⟩ v) := fun v => (Fr.refl (one g) W3).setCell' (.inl rfl) v
  have gs : ∀ i, i < n → (vs.set k (.slice A3 (r ++ y).length c3)).getD i undef = if i = k then .slice A3 (r ++ y).length c3 else vs.getD i undef := fun i hi => by
    have hl1 := h.n1
    simp only [List.getD_eq_getElem?_getD, List.getElem?_set]
    by_cases e : k = i
    · subst e; rw [if_pos rfl, if_pos (by omega), if_pos rfl]; rfl
    · rw [if_neg e, if_neg (fun h => e h.symm)]
  have gl : ∀ i, i < n → (l.set k (r ++ y)).getD i [] = if i = k then r ++ y else l.getD i [] := fun i hi => by
    have hl1 := h.n2
    simp only [List.getD_eq_getElem?_getD, List.getElem?_set]
    by_cases e : k = i
    · subst e; rw [if_pos rfl, if_pos (by omega), if_pos rfl]; rfl
    · rw [if_neg e, if_neg (fun h => e h.symm)]
  have hdisk : ∀ i, i < n → i ≠ k → ∀ q, rowOf (vs.getD i undef) q → ¬ rowOf u q := fun i hi hik q hq => by
    rw [HU.out]; exact h.dis i k hi hk hik q hq
  have hold : ∀ i, i < n → ∀ q, rowOf (vs.getD i undef) q → q < W2.heap.size := fun i hi q hq => Own.lt (h.own i hi) hq
  have hud' : ∀ q, rowOf u q → w.heap.size ≤ q := fun q hq => by rw [HU.out] at hq; exact h.rnew k hk q hq
  refine ⟨rfl, .slice A3 (r ++ y).length c3, ?_, ?_, ?_⟩
  · rw [← HRR.out, ← HYY.out]
    refine ⟨(h.blk.fr HF3.out hud).fr (hS _) (fun e => by unfold one at e; exact h.dg e), ?_, by rw [List.length_set]; exact h.n1, by rw [List.length_set]; exact h.n2, fun i hi => ?_, fun i j hi hj hij q hq1 hq2 => ?_, h.dnew, fun i hi q hq => ?_, ?_⟩
    · have := HA3.out.set_ k (.slice A3 (r ++ y).length c3)
      simpa using this
    · rw [gs i hi, gl i hi]
      by_cases e : i = k
      · rw [if_pos e, if_pos e]
        exact Own.fr HO3.out (hS _) (fun q hq hq2 => by unfold one at hq; subst hq; exact hvg hq2)
      · rw [if_neg e, if_neg e]
        exact Own.fr (Own.fr (h.own i hi) HF3.out (fun q hq hq2 => hdisk i hi e q hq2 hq)) (hS _) (fun q hq hq2 => by unfold one at hq; subst hq; exact h.row_g i hi hq2)
    · rw [gs i hi] at hq1
      rw [gs j hj] at hq2
      by_cases e1 : i = k
      · rw [if_pos e1] at hq1
        have e2 : j ≠ k := fun e => hij (e1.trans e.symm)
        rw [if_neg e2] at hq2
        rcases hrow q hq1 with hq | hq
        · exact hdisk j hj e2 q hq2 hq
        · have := hold j hj q hq2; omega
      · rw [if_neg e1] at hq1
        by_cases e2 : j = k
        · rw [if_pos e2] at hq2
          rcases hrow q hq2 with hq | hq
          · exact hdisk i hi e1 q hq1 hq
          · have := hold i hi q hq1; omega
        · rw [if_neg e2] at hq2
          exact h.dis i j hi hj hij q hq1 hq2
    · rw [gs i hi] at hq
      by_cases e : i = k
      · rw [if_pos e] at hq
        rcases hrow q hq with hq | hq
        · exact hud' q hq
        · have := h.bel.size; omega
      · rw [if_neg e] at hq
        exact h.rnew i hi q hq
    · have s1 := h.bel.size
      exact (h.bel.trans (HF3.out.below s1 hud')).trans ((hS _).below (by omega) (fun q hq => by unfold one at hq; subst hq; exact h.dnew.2))
  · rw [← HU.out]
    exact ((Fr.of_below HB2.out _).then HF3.out (fun q hq => .inl (.inr hq))).then (hS _) (fun q hq => .inl (.inl hq))
  · intro q hq
    rw [← HU.out]
    exact (hrow q hq).imp id (fun h => by omega)
end Go.Proofs.Ytnlkjhhocehhaaa
