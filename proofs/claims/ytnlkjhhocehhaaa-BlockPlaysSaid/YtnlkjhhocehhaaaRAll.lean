/- The reference's disk in memory; its New, Size, put, May, Write, Part, Compact. -/
import Derived.Test.YtnlkjhhocehhaaaTorn
import Derived.Test.YtnlkjhhocehhaaaNils
import Derived.Test.YtnlkjhhocehhaaaGrow
import Derived.BigQuiet
namespace Go.Proofs.Ytnlkjhhocehhaaa
set_option linter.unusedVariables false
open Go Go.RowKit Go.Proofs Sha
def r2 (d g : Nat) : Nat → Prop := fun k => k = d ∨ k = g
def rF (F : Nat → Prop) (d g : Nat) : Nat → Prop := fun k => F k ∨ k = d ∨ k = g
/-- The reference's disk: none of its blocks is one of F's. -/
structure RDk (F : Nat → Prop) (w W : World) (d g n : Nat) (rs : List Value) (L : List (List (List UInt8))) (br : Bool) : Prop where
  blk : Blk W d 87 #[.slice (some ⟨g, 0, none⟩) n n, .bool br]
  arr : Blk W g 48 rs.toArray
  n1 : rs.length = n
  n2 : L.length = n
  nd : ¬ F d
  ng : ¬ F g
  rows : ∀ i, i < n → LsF (rF F d g) W (rs.getD i undef) (L.getD i [])
  dnew : w.heap.size ≤ d ∧ w.heap.size ≤ g
  bel : Below w.heap.size w W
section
variable {F F' : Nat → Prop} {w W W' : World} {d g n : Nat} {rs : List Value} {L : List (List (List UInt8))} {br : Bool}
theorem RDk.keep (h : RDk F w W d g n rs L br) (hb : Below W.heap.size W W') : RDk F w W' d g n rs L br :=
  ⟨h.blk.below hb h.blk.lt, h.arr.below hb h.arr.lt, h.n1, h.n2, h.nd, h.ng, fun i hi => (h.rows i hi).keep hb, h.dnew, h.bel.trans (hb.mono h.bel.size)⟩
theorem RDk.base {w0 : World} (h : RDk F w W d g n rs L br) (hb : Below w0.heap.size w0 w) : RDk F w0 W d g n rs L br :=
  ⟨h.blk, h.arr, h.n1, h.n2, h.nd, h.ng, h.rows, ⟨Nat.le_trans hb.size h.dnew.1, Nat.le_trans hb.size h.dnew.2⟩, hb.trans (h.bel.mono hb.size)⟩
/-- What is changed of F's blocks leaves the reference's disk. -/
theorem RDk.step (h : RDk F w W d g n rs L br) (hf : Fr F W W') (hF : ∀ k, F' k → F k ∨ W.heap.size ≤ k) (hge : ∀ k, F k → w.heap.size ≤ k) : RDk F' w W' d g n rs L br := by
  obtain ⟨h1, h2, h3, h4, h5, h6, h7, h8, h9⟩ := h
  have l1 := h1.lt
  have l2 := h2.lt
  refine ⟨h1.fr hf h5, h2.fr hf h6, h3, h4, fun hd => (hF d hd).elim h5 (fun h => by omega), fun hg => (hF g hg).elim h6 (fun h => by omega), fun i hi => ?_, h8, h9.trans (hf.below h9.size hge)⟩
  refine (h7 i hi).step (hf.mono (fun k _ hk => .inl hk)) (fun k hk => ?_)
  rcases hk with hk | hk
  · exact (hF k hk).imp .inl id
  · exact .inl (.inr hk)
theorem RDk.cell (h : RDk F w W d g n rs L br) (i : Nat) (hi : i < n) : W.cell? ⟨g, i, none⟩ = some (rs.getD i undef) := by
  rw [h.arr.cell]; simp [show i < rs.length by rw [h.n1]; exact hi]
theorem RDk.dg (h : RDk F w W d g n rs L br) : d ≠ g := h.blk.ne_ h.arr (by decide)
/-- A row that is written anew. -/
theorem RDk.set_ (h : RDk F w W d g n rs L br) (k : Nat) (hk : k < n) (v : Value) (x : List (List UInt8)) (hx : LsF (rF F d g) W v x) : RDk F w (W.setCell ⟨g, k, none⟩ v) d g n (rs.set k v) (L.set k x) br := by
  have hS : Fr (one g) W (W.setCell ⟨g, k, none⟩ v) := (Fr.refl (one g) W).setCell' (.inl rfl) _
  have hS' : Fr (rF F d g) W (W.setCell ⟨g, k, none⟩ v) := hS.mono (fun q _ hq => .inr (.inr hq))
  refine ⟨h.blk.fr hS (fun e => by unfold one at e; exact h.dg e), ?_, by rw [List.length_set]; exact h.n1, by rw [List.length_set]; exact h.n2, h.nd, h.ng, fun i hi => ?_, h.dnew, h.bel.trans (hS.below h.bel.size (fun q hq => by unfold one at hq; subst hq; exact h.dnew.2))⟩
  · have := h.arr.set_ k v
    simpa using this
  · have hl1 := h.n1
    have hl2 := h.n2
    by_cases e : i = k
    · subst e
      rw [show (rs.set i v).getD i undef = v by simp [show i < rs.length by omega], show (L.set i x).getD i [] = x by simp [show i < L.length by omega]]
      exact hx.fr hS'
    · rw [show (rs.set k v).getD i undef = rs.getD i undef by simp only [List.getD_eq_getElem?_getD]; rw [List.getElem?_set_ne (fun h => e h.symm)], show (L.set k x).getD i [] = L.getD i [] by simp only [List.getD_eq_getElem?_getD]; rw [List.getElem?_set_ne (fun h => e h.symm)]]
      exact (h.rows i hi).fr hS'
theorem RDk.break_ (h : RDk F w W d g n rs L br) (b : Bool) : RDk F w (W.setCell ⟨d, 1, none⟩ (.bool b)) d g n rs L b := by
  have hS : Fr (one d) W (W.setCell ⟨d, 1, none⟩ (.bool b)) := (Fr.refl (one d) W).setCell' (.inl rfl) _
  have hS' : Fr (rF F d g) W (W.setCell ⟨d, 1, none⟩ (.bool b)) := hS.mono (fun q _ hq => .inr (.inl hq))
  refine ⟨?_, h.arr.fr hS (fun e => by unfold one at e; exact h.dg e.symm), h.n1, h.n2, h.nd, h.ng, fun i hi => (h.rows i hi).fr hS', h.dnew, h.bel.trans (hS.below h.bel.size (fun q hq => by unfold one at hq; subst hq; exact h.dnew.1))⟩
  have := h.blk.set_ 1 (.bool b)
  simpa using this
theorem RDk.foot (h : RDk F w W d g n rs L br) : ∀ k, r2 d g k → w.heap.size ≤ k := fun k hk => by
  rcases hk with rfl | rfl
  · exact h.dnew.1
  · exact h.dnew.2
end
set_option maxRecDepth 100000 in
theorem make70 (n : Nat) (hn : n ≤ 100) (W : World) : (Instr.makeSlice 70 (.int .i64 (n : Int)) (.int .i64 (n : Int))).run Try.prog W = .ok (.slice (some ⟨W.heap.size, 0, none⟩) n n) (W.alloc (.cells (List.replicate n (Value.slice none 0 0)).toArray 48)) := by
  have h3 := info48
  cases hi : Try.prog.info? 48 with
  | none => rw [hi] at h3; cases h3
  | some i =>
    rw [hi] at h3
    simp only [Option.map_some, Option.some.injEq, Prod.mk.injEq] at h3
    obtain ⟨h1, h2, h4⟩ := h3
    have := run_makeSlice (P := Try.prog) W 70 48 i (.slice none 0 0) Try.underlying70 hi h1 .i64 .i64 (n : Int) (n : Int) (by omega) (Int.le_refl _) (by rw [h2]; omega) (by rw [h4]; omega) (by omega)
    rw [Int.toNat_natCast, h2, Nat.mul_one] at this
    rw [this]
    congr 3
    show madeCells #[Value.slice none 0 0] n = _
    rw [made_one]
set_option maxRecDepth 100000 in
theorem build87 (v : Value) (a : Option Addr) (n c : Nat) (h : v = .slice a n c) (W : World) : (Instr.build 87 #[(0, v)]).run Try.prog W = .ok (.agg #[v, .bool false]) W := by
  subst h
  kernel_rfl
abbrev emptyR (n : Nat) : List (List (List UInt8)) := List.replicate n []
theorem emptyR_get (n k : Nat) : (emptyR n).getD k [] = [] := by
  simp only [emptyR, List.getD_eq_getElem?_getD, List.getElem?_replicate]
  split <;> rfl
set_option maxRecDepth 100000 in
theorem rnewD_any (r : Int) (n : Nat) (hr : min (max r 1) 8 = (n : Int)) (w : World) : Calls Try.prog 59 #[.int .i64 r] w fun e w' => e = .returned (dP (w.heap.size + 1)) ∧ ∀ F : Nat → Prop, (∀ k, F k → k < w.heap.size) → RDk F w w' (w.heap.size + 1) w.heap.size n (List.replicate n (Value.slice none 0 0)) (emptyR n) false := by
  have h1 : 1 ≤ n := by omega
  have h8 : n ≤ 8 := by omega
  have hmk := make70 n (by omega)
  have hbd := fun W => build87 (.slice (some ⟨w.heap.size, 0, none⟩) n n) _ _ _ rfl W
  go_enter Try.func59, Try.ntmps59
  go_wp2_with fail
  go_ret
  have hg : ∀ i, i < n → (List.replicate n (Value.slice none 0 0)).getD i undef = .slice none 0 0 := fun i hi => by simp [List.getD_eq_getElem?_getD, hi]
  refine ⟨by simp, fun F hF => ⟨?_, ?_, by simp, by simp, fun h => by have := hF _ h; omega, fun h => by have := hF _ h; omega, fun i hi => ?_, by simp, ?_⟩⟩
  · have := Blk.new (w.alloc (.cells (List.replicate n (Value.slice none 0 0)).toArray 48)) 87 #[.slice (some ⟨w.heap.size, 0, none⟩) n n, .bool false]
    simpa using this
  · exact (Blk.new w 48 _).alloc _
  · rw [hg i hi, emptyR_get]
    exact ⟨[], rfl, Own.nil _ _ _, (fun g hg => by cases hg), fun i h => by simp at h⟩
  · exact ((Below.refl _ w).alloc (Nat.le_refl _) _).alloc (by simp) _
set_option maxRecDepth 100000 in
set_option maxHeartbeats 4000000 in
theorem rsize_any {F : Nat → Prop} {w W : World} {d g n : Nat} {rs : List Value} {L : List (List (List UInt8))} {br : Bool} (h : RDk F w W d g n rs L br) (hn : n ≤ 100) (k : Nat) (hk : k < n) (hz : (recs (L.getD k [])).length ≤ 1000000) :
    Calls Try.prog 66 #[dP d, .int .i64 (k : Int)] W fun e W' => e = .returned (.int .i64 ((recs (L.getD k [])).length : Int)) ∧ W = W' := by
  have hcd : W.cell? ⟨d, 0, none⟩ = some (.slice (some ⟨g, 0, none⟩) n n) := h.blk.cell 0
  have hck := h.cell k hk
  have hrow := (h.rows k hk).ls
  obtain ⟨A, c, hv, -, -⟩ := hrow.shape
  obtain ⟨R, hR⟩ : ∃ R, R = L.getD k [] := ⟨_, rfl⟩
  rw [← hR] at hv hrow hz ⊢
  obtain ⟨m, hm⟩ : ∃ m, m = R.length := ⟨_, rfl⟩
  rw [← hm] at hv
  rw [hv] at hck hrow
  have HM := Lib.hid hm
  have HROW := Lib.hid hrow
  have hmz : m ≤ 1000000 := by have := recs_count R; omega
  have hk0 : (0 : Int) ≤ (k : Int) := by omega
  have hkn : (k : Int) < (n : Int) := by omega
  have HZ := Lib.hid hz
  clear h hv hrow hR hm hz
  go_enter Try.func66, Try.ntmps66
  go_wp2_with fail
  go_loopw [5, 6] (fun c5 c6 wr => ∃ i : Nat, i ≤ m ∧ c6 = .int .i64 (i : Int) ∧ c5 = .int .i64 ((recs (R.take i)).length : Int) ∧ wr = W) (fun _ c6 _ => m - (intOf c6).toNat)
  case atStart => exact ⟨0, by omega, rfl, rfl, rfl⟩
  case round =>
    obtain ⟨i, him, rfl, rfl, rfl⟩ := hrel
    by_cases hlt : i < m
    · have hd : decide ((i : Int) < (m : Int)) = true := decide_eq_true (by omega)
      have hil : i < R.length := by rw [← HM.out]; exact hlt
      obtain ⟨g1, o1, c1, A1, d1, e1, hg1, hc1, hb1, hn1, hn2, hn3⟩ := HROW.out.at_ i hil
      injection e1 with e1 e2 e3
      clear e2
      subst e1 e3
      obtain ⟨x, hx⟩ : ∃ x, x = R.getD i [] := ⟨_, rfl⟩
      rw [← hx] at hc1
      have htk : R.take (i + 1) = R.take i ++ [x] := by rw [List.take_succ_eq_append_getElem hil, hx]; simp [hil]
      have hle : (recs (R.take i)).length + (6 + x.length) ≤ 1000000 := by
        have h1 : (recs R).length = (recs (R.take i)).length + (recs (R.drop i)).length := by rw [← List.length_append, ← recs_append, List.take_append_drop]
        have h2 : R.drop i = x :: R.drop (i + 1) := by rw [List.drop_eq_getElem_cons hil, hx]; simp [hil]
        rw [h2, recs_cons, List.length_append, length_recB] at h1
        have := HZ.out
        omega
      obtain ⟨q, hq⟩ : ∃ q, q = x.length := ⟨_, rfl⟩
      have hsn : (recs (R.take (i + 1))).length = (recs (R.take i)).length + (6 + q) := by rw [htk, recs_snoc, List.length_append, length_recB, hq]
      rw [← hq] at hc1 hle
      obtain ⟨z, hz⟩ : ∃ z, z = (recs (R.take i)).length := ⟨_, rfl⟩
      rw [← hz] at hle hsn ⊢
      have HSN := Lib.hid hsn
      have h0i : (0 : Int) ≤ (i : Int) := by omega
      have himm : (i : Int) < (m : Int) := by omega
      clear hb1 hn1 hn2 hn3 hx htk hq hsn hz
      go_wp2_with fail
      go_roundw
      case rel => exact ⟨i + 1, by omega, by go_num, by rw [HSN.out]; go_num, trivial⟩
      case measure => simp [intOf]; omega
    · obtain rfl : i = m := by omega
      have hd : decide ((i : Int) < (i : Int)) = false := decide_eq_false (by omega)
      have htk : R.take i = R := List.take_of_length_le (by rw [← HM.out]; exact Nat.le_refl _)
      rw [htk]
      clear htk
      go_wp2_with fail
      go_ret
      exact ⟨rfl, rfl⟩
end Go.Proofs.Ytnlkjhhocehhaaa
namespace Go.Proofs.Ytnlkjhhocehhaaa
set_option linter.unusedVariables false
open Go Go.RowKit Go.Proofs Sha Go.BigFrame
/-- What a step leaves of the reference's disk. -/
def RTo (F : Nat → Prop) (w : World) (d g n : Nat) (W : World) (L' : List (List (List UInt8))) (br' : Bool) (W' : World) : Prop := ∃ rs', RDk F w W' d g n rs' L' br' ∧ Fr (r2 d g) W W'
/-- The writes that the reference is given. -/
structure Docs (w W : World) (A : Option Addr) (m c : Nat) (fl : List Wr) : Prop where
  own : Own W 118 2 (.slice A m c) m (wsC fl)
  len : m = fl.length
  few : m ≤ 20
  each : ∀ e ∈ fl, Sl w e.u e.x
  lens : ∀ e ∈ fl, e.x.length ≤ 10000
theorem Docs.keep {w W W' : World} {A : Option Addr} {m c : Nat} {fl : List Wr} (h : Docs w W A m c fl) (hb : Below W.heap.size W W') : Docs w W' A m c fl :=
  ⟨Own.fr h.own (Fr.of_below hb nob) (fun _ h => h.elim), h.len, h.few, h.each, h.lens⟩
section
variable {F : Nat → Prop} {w W W' : World} {d g n : Nat} {rs : List Value} {L : List (List (List UInt8))} {br : Bool} {A : Option Addr} {m c : Nat} {fl : List Wr}
theorem Docs.step (h : Docs w W A m c fl) (hD : RDk F w W d g n rs L br) (hf : Fr (r2 d g) W W') : Docs w W' A m c fl := by
  refine ⟨Own.fr h.own hf (fun k hk hk2 => ?_), h.len, h.few, h.each, h.lens⟩
  rcases hk with rfl | rfl
  · exact Own.blk_ne h.own hD.blk (by decide) hk2
  · exact Own.blk_ne h.own hD.arr (by decide) hk2
theorem Docs.at_ (h : Docs w W A m c fl) (i : Nat) (hi : i < m) : ∃ g o, A = some ⟨g, o, none⟩ ∧ g < W.heap.size ∧ W.rangeAt g (o + i * 2) (wrC (fl.getD i default)) := by
  obtain ⟨g, o, c', hv, hg, -, hc⟩ := h.own.cells (by omega)
  injection hv with e1 e2 e3
  refine ⟨g, o, e1, hg, fun j u hj => ?_⟩
  have hj2 : j < 2 := by have := (List.getElem?_eq_some_iff.1 hj).1; rw [length_wrC] at this; exact this
  rw [Nat.add_assoc]
  exact hc (i * 2 + j) u (by rw [wsC_get fl i j (by have := h.len; omega) hj2]; exact hj)
theorem RTo.same (h : RDk F w W d g n rs L br) (hb : Below W.heap.size W W') : RTo F w d g n W L br W' := ⟨rs, h.keep hb, Fr.of_below hb _⟩
end
theorem set_same (L : List (List (List UInt8))) (k : Nat) : L.set k (L.getD k []) = L := by
  rcases Nat.lt_or_ge k L.length with h | h
  · apply List.ext_getElem?
    intro i
    rw [List.getElem?_set]
    by_cases e : k = i
    · subst e; simp [h]
    · rw [if_neg e]
  · exact List.set_eq_of_length_le h
/-- The first writes' part of a room, one more write. -/
theorem put_step (k : Int) (fl : List Wr) (i : Nat) (hi : i < fl.length) (mo : Int) :
    (sel k (fl.take (i + 1))).take mo.toNat = if (fl.getD i default).room = k ∧ ((((sel k (fl.take i)).take mo.toNat).length : Nat) : Int) < mo then (sel k (fl.take i)).take mo.toNat ++ [(fl.getD i default).x] else (sel k (fl.take i)).take mo.toNat := by
  have htk : fl.take (i + 1) = fl.take i ++ [fl.getD i default] := by rw [List.take_succ_eq_append_getElem hi]; simp [hi]
  rw [htk, sel_append, sel_cons, sel_nil]
  by_cases h1 : (fl.getD i default).room = k
  · rw [if_pos h1]
    by_cases h2 : ((((sel k (fl.take i)).take mo.toNat).length : Nat) : Int) < mo
    · rw [if_pos ⟨h1, h2⟩]
      rw [List.length_take] at h2
      have hS : (sel k (fl.take i)).length < mo.toNat := by omega
      obtain ⟨S, hSe⟩ : ∃ S, S = sel k (fl.take i) := ⟨_, rfl⟩
      rw [← hSe] at hS ⊢
      rw [List.take_of_length_le (l := S) (by omega), List.take_of_length_le (by rw [List.length_append, List.length_singleton]; omega)]
    · rw [if_neg (fun h => h2 h.2)]
      rw [List.length_take] at h2
      rw [List.take_append_of_le_length (by omega)]
  · rw [if_neg h1, if_neg (fun h => h1 h.1), List.append_nil]
/-- The end of a put: the new row is stored. -/
theorem rput_end {F : Nat → Prop} {w wA wE : World} {d g n : Nat} {rs : List Value} {L : List (List (List UInt8))} {br : Bool} (h : RDk F w wA d g n rs L br) (hF : ∀ k, F k → k < wA.heap.size) (k : Nat) (hk : k < n)
    {Ax : Option Addr} {nx cx : Nat} {ux : List Value} (hux1 : ux.length = (L.getD k []).length) (hux4 : ∀ i, i < (L.getD k []).length → SlF (rF F d g) wA (ux.getD i undef) ((L.getD k []).getD i []))
    {x : List UInt8} {vb v3 : Value} (hb : Own wE 5 1 vb x.length (byteVals x)) (hbr : ∀ q, rowOf vb q → wA.heap.size ≤ q) (h3 : Own wE 22 1 v3 ((L.getD k []).length + 1) (ux ++ [vb])) (h3r : ∀ q, rowOf v3 q → wA.heap.size ≤ q) (hE : Below wA.heap.size wA wE) :
    RDk F w (wE.setCell ⟨g, k, none⟩ v3) d g n (rs.set k v3) (L.set k (L.getD k [] ++ [x])) br ∧ Fr (r2 d g) wA (wE.setCell ⟨g, k, none⟩ v3) := by
  have hD := h.keep hE
  have hnew : ∀ q, wA.heap.size ≤ q → ¬ rF F d g q := fun q hq hr => by
    rcases hr with hr | rfl | rfl
    · have := hF q hr; omega
    · have := h.blk.lt; omega
    · have := h.arr.lt; omega
  have hx : LsF (rF F d g) wE v3 (L.getD k [] ++ [x]) := by
    refine ⟨ux ++ [vb], by simp [hux1], by rw [List.length_append]; exact h3, fun q hq => hnew q (h3r q hq), fun i hi => ?_⟩
    rw [List.length_append, List.length_singleton] at hi
    rcases Nat.lt_or_ge i (L.getD k []).length with hl | hl
    · have e1 : (ux ++ [vb]).getD i undef = ux.getD i undef := by simp only [List.getD_eq_getElem?_getD]; rw [List.getElem?_append_left (by omega)]
      have e2 : (L.getD k [] ++ [x]).getD i [] = (L.getD k []).getD i [] := by simp only [List.getD_eq_getElem?_getD]; rw [List.getElem?_append_left (by simpa [List.getD_eq_getElem?_getD] using hl)]
      rw [e1, e2]; exact (hux4 i hl).keep hE
    · obtain rfl : i = (L.getD k []).length := by omega
      have e1 : (ux ++ [vb]).getD (L.getD k []).length undef = vb := by rw [← hux1]; simp
      have e2 : (L.getD k [] ++ [x]).getD (L.getD k []).length [] = x := by simp
      rw [e1, e2]
      obtain ⟨A1, c1, e3, e4, e5, e6, e7⟩ := Sl.of_own hb
      refine ⟨A1, c1, e3, e4, e5, e6, e7, fun h0 g' o' s' e8 hg => ?_⟩
      exact hnew g' (hbr g' (by rw [e3, e8]; rfl)) hg
  refine ⟨hD.set_ k hk v3 _ hx, (Fr.of_below hE _).setCell' (.inl (.inr rfl)) _⟩
set_option maxRecDepth 100000 in
set_option maxHeartbeats 8000000 in
theorem rput_any {F : Nat → Prop} {w W : World} {d g n : Nat} {rs : List Value} {L : List (List (List UInt8))} {br : Bool} (h : RDk F w W d g n rs L br) (hF : ∀ k, F k → k < W.heap.size) (hn : n ≤ 100) {A : Option Addr} {m c : Nat} {fl : List Wr} (hd : Docs w W A m c fl) (k : Nat) (hk : k < n) (mo : Int) (hz : (L.getD k []).length ≤ 1000000) :
    Calls Try.prog 85 #[dP d, .slice A m c, .int .i64 (k : Int), .int .i64 mo] W fun e W' => e = .returned (.tuple #[]) ∧ RTo F w d g n W (L.set k (L.getD k [] ++ (sel (k : Int) fl).take mo.toNat)) br W' := by
  obtain ⟨i0, hi0, hz0, hz1, hz2⟩ := info_parts info5
  obtain ⟨i2, hi2, hy0, hy1, hy2⟩ := info_parts info22'
  have HD := Lib.hid h
  have HDO := Lib.hid hd
  have HF := Lib.hid hF
  have hm20 := hd.few
  have hkL : k < L.length := by rw [h.n2]; exact hk
  have HKL := Lib.hid hkL
  clear h hd hF hkL
  go_enter Try.func85, Try.ntmps85
  go_wp2_with fail
  go_loopw [8, 9] (fun c8 c9 wr => ∃ (i : Nat) (rs1 : List Value), i ≤ m ∧ c9 = .int .i64 (i : Int) ∧ c8 = .int .i64 ((((sel (k : Int) (fl.take i)).take mo.toNat).length : Nat) : Int) ∧ RDk F w wr d g n rs1 (L.set k (L.getD k [] ++ (sel (k : Int) (fl.take i)).take mo.toNat)) br ∧ Fr (r2 d g) W wr ∧ Docs w wr A m c fl) (fun _ c9 _ => m - (intOf c9).toNat)
  case atStart => exact ⟨0, rs, by omega, rfl, by simp [sel], by rw [show (sel (k : Int) (fl.take 0)).take mo.toNat = [] by simp [sel], List.append_nil, set_same]; exact HD.out, Fr.refl _ _, HDO.out⟩
  case round =>
    obtain ⟨i, rs1, him, rfl, rfl, hD, hFr, hDo⟩ := hrel
    have HDD := Lib.hid hD
    have HFR := Lib.hid hFr
    have HDC := Lib.hid hDo
    clear hD hFr hDo
    by_cases hlt : i < m
    · have hd : decide ((i : Int) < (m : Int)) = true := decide_eq_true (by omega)
      have hil : i < fl.length := by rw [← HDC.out.len]; exact hlt
      obtain ⟨g1, o1, hA1, hg1, hr1⟩ := HDC.out.at_ i hlt
      subst hA1
      have hps := put_step (k : Int) fl i hil mo
      obtain ⟨e, he⟩ : ∃ e, e = fl.getD i default := ⟨_, rfl⟩
      have hem : e ∈ fl := by rw [he, show fl.getD i default = fl[i] by simp [hil]]; exact List.getElem_mem hil
      rw [← he] at hr1 hps
      have hc0 : wr.cell? ⟨g1, o1 + i * 2, none⟩ = some (.int .i64 e.room) := hr1 0 _ rfl
      have hc1 : wr.cell? ⟨g1, o1 + i * 2 + 1, none⟩ = some e.u := hr1 1 _ rfl
      have HEE := Lib.hid (HDC.out.each e hem)
      have HEL := Lib.hid (HDC.out.lens e hem)
      have htl : ((sel (k : Int) (fl.take i)).take mo.toNat).length ≤ 20 := by rw [List.length_take]; have := sel_len (k : Int) (fl.take i); rw [List.length_take] at this; omega
      obtain ⟨T, hT⟩ : ∃ T, T = (sel (k : Int) (fl.take i)).take mo.toNat := ⟨_, rfl⟩
      rw [← hT] at hps htl HDD ⊢
      obtain ⟨cn, hcn⟩ : ∃ cn, cn = T.length := ⟨_, rfl⟩
      rw [← hcn] at hps htl ⊢
      have HCN := Lib.hid hcn
      obtain ⟨rm, PA, pc, x⟩ := e
      unfold Wr.u at hc1
      simp only at hc0 hc1 hps
      obtain ⟨q, hq⟩ : ∃ q, q = x.length := ⟨_, rfl⟩
      rw [← hq] at hc1
      have HQ := Lib.hid hq
      have h0i : (0 : Int) ≤ (i : Int) := by omega
      have hii : (i : Int) < (m : Int) := by omega
      by_cases hek : rm = (k : Int)
      · subst hek
        by_cases hcm : (cn : Int) < mo
        · have hdc : decide ((cn : Int) < mo) = true := decide_eq_true hcm
          rw [if_pos ⟨rfl, hcm⟩] at hps
          have HPS := Lib.hid hps
          clear hps hr1 he hem hil hq hT hcn
          go_wp2_with fail
          have hgk : (L.set k (L.getD k [] ++ T)).getD k [] = L.getD k [] ++ T := by have := HKL.out; simp [this]
          have hDA : RDk F w wr.drew d g n rs1 (L.set k (L.getD k [] ++ T)) br := HDD.out.keep (Below.refl wr.heap.size wr).drew
          obtain ⟨L1, hL1⟩ : ∃ L1, L1 = L.set k (L.getD k [] ++ T) := ⟨_, rfl⟩
          rw [← hL1] at hDA hgk
          have HL1 := Lib.hid hL1
          have hrow := hDA.rows k hk
          obtain ⟨Ax, cx, hvx, -, -⟩ := hrow.ls.shape
          obtain ⟨nx, hnx⟩ : ∃ nx, nx = (L1.getD k []).length := ⟨_, rfl⟩
          have hck := hDA.cell k hk
          rw [hvx, ← hnx] at hck
          rw [hvx] at hrow
          obtain ⟨ux, hux1, hux2, -, hux4⟩ := hrow
          rw [← hnx] at hux2
          have hcd : wr.drew.cell? ⟨d, 0, none⟩ = some (.slice (some ⟨g, 0, none⟩) n n) := hDA.blk.cell 0
          have hnx2 : nx ≤ 1000020 := by rw [hnx, hgk, List.length_append, ← HCN.out]; omega
          have ho1 : ∀ u ∈ ux, u.oneCell' = true := ls_one hux1 (fun i hi => (hux4 i hi).sl)
          have hSE : Bytes wr.drew PA x := by
            have h1 := HEE.out
            obtain ⟨A', c', h2, -, -, h3, -⟩ := h1
            unfold Wr.u at h2
            injection h2 with h2 _ _
            have h2' : PA = A' := h2
            rw [h2']
            exact h3.keep hDA.bel
          have hSE2 : Src wr.drew 1 PA q (byteVals x) := by unfold Bytes at hSE; rwa [← HQ.out] at hSE
          have hq1 : q ≤ 10000 := by have h9 : x.length ≤ 10000 := HEL.out; rw [HQ.out]; exact h9
          have HS1 : Hid (Src wr.drew 1 Ax nx ux) := Lib.hid (Src.of_own hux2)
          have HSE := Lib.hid hSE2
          have HO1 := Lib.hid ho1
          have HX1 := Lib.hid hux1
          have HX4 := Lib.hid hux4
          have HNX := Lib.hid hnx
          have HGK := Lib.hid hgk
          have HDA := Lib.hid hDA
          have hFA : ∀ k, F k → k < wr.drew.heap.size := fun q hq => Nat.lt_of_lt_of_le (HF.out q hq) HFR.out.size
          have HFA := Lib.hid hFA
          have hld : d < wr.heap.size := HDD.out.blk.lt
          have hlg : g < wr.heap.size := HDD.out.arr.lt
          have hk0 : (0 : Int) ≤ (k : Int) := by omega
          have hkn : (k : Int) < (n : Int) := by omega
          have hc1A : wr.drew.cell? ⟨g1, o1 + i * 2 + 1, none⟩ = some (.slice PA q pc) := hc1
          have HFRA : Hid (Fr (r2 d g) W wr.drew) := Lib.hid HFR.out.drew
          have HDCA : Hid (Docs w wr.drew (some ⟨g1, o1, none⟩) m c fl) := Lib.hid (HDC.out.keep (Below.refl wr.heap.size wr).drew)
          clear hL1 hvx hux1 hux2 hux4 hnx ho1 hSE hSE2 hgk hDA hFA hc0 hc1 HDC HFR HDD
          refine wp_region_grow 22 [([0, 1, 2, 3, 4, 5, 6, 7, 8, 9, 10, 11, 13, 14, 15, 16, 17], 12), ([], 18), ([], 19), ([], 20), ([21], 22)] [] (by kernel_rfl) (by kernel_rfl) ?_
          obtain ⟨Bd, hBd⟩ : ∃ Bd, Bd = wr.heap.size := ⟨_, rfl⟩
          have hAB : wr.drew.heap.size = Bd := hBd.symm
          obtain ⟨wA, hwA⟩ : ∃ wA, wA = wr.drew := ⟨_, rfl⟩
          rw [← hwA] at HS1 HSE HX4 HDA HFA HFRA HDCA hcd hck hc1A hAB ⊢
          rw [← hBd] at hg1 hld hlg ⊢
          have hg1A : g1 < wA.heap.size := by omega
          have hldA : d < wA.heap.size := by omega
          have hlgA : g < wA.heap.size := by omega
          clear hwA hBd
          try simp only [Act.put, List.setIfInBounds_toArray, List.set_cons_zero, List.set_cons_succ]
          refine wpSegs_cons rfl (List.getElem?_toArray ..) ?_
          simp only [pick, List.filterMap_cons, List.filterMap_nil, List.getElem?_toArray, List.getElem?_cons_succ, List.getElem?_cons_zero]
          show wpQuiet _ _ _ _ [_, _, _, _, _, _, _, _, _, _, _, _, _, _, _, _, _] _
          repeat (go_big_quiet_step (fail))
          refine wpQuiet_nil ?_
          rw [if_pos (by rfl)]
          intro K hK
          refine wp_append_o _ (.const (.slice none 0 0)) (.tmp 39) 48 rfl 22 i2 (.slice none 0 0) 1 24 Try.underlying48 hi2 hy0 hy1 hy2 rfl (by omega) (.slice none 0 0) 0 [] rfl (Own.nil _ _ _) Ax nx cx ux rfl HS1.out HO1.out (by simp only [maxLen]; omega) (by omega) ?_
          intro v1 wB hown1 hf1 hr1
          rw [Nat.zero_add, List.nil_append] at hown1
          have hF1 : Fr nob wA wB := hf1.mono (fun k _ hk => by cases hk)
          have hr1A : ∀ k, rowOf v1 k → Bd ≤ k := fun k hk => (hr1 k hk).elim (fun h => by cases h) (fun h => by omega)
          refine hK Bd _ _ (Nat.le_refl _) (fun _ => hF1.mono (fun _ _ h => h.elim)) ?_
          clear hK K hf1 hr1
          have HBB : Hid (Below Bd wA wB) := Lib.hid (hF1.below_nob.mono (by omega))
          have HSB := Lib.hid (HSE.out.fr hF1 (fun _ _ _ _ h => h))
          have HO1B := Lib.hid hown1
          have HR1 := Lib.hid hr1A
          have hsB : Bd ≤ wB.heap.size := by have := hF1.size; omega
          clear hown1 hr1A hF1 hck hc1A hg1A hldA hlgA HS1 HSE
          try simp only [Act.put, List.setIfInBounds_toArray, List.set_cons_zero, List.set_cons_succ]
          refine wpSegs_cons rfl (List.getElem?_toArray ..) ?_
          simp only [pick, List.filterMap_cons, List.filterMap_nil, List.getElem?_toArray, List.getElem?_cons_succ, List.getElem?_cons_zero]
          refine wpQuiet_nil ?_
          rw [if_pos (by rfl)]
          intro K hK
          refine wp_append_o _ (.const (.slice none 0 0)) (.tmp 45) 22 rfl 5 i0 (.int .u8 0) 1 1 Try.underlying22 hi0 hz0 hz1 hz2 rfl (by omega) (.slice none 0 0) 0 [] rfl (Own.nil _ _ _) PA q pc (byteVals x) rfl HSB.out (byteVals_one _) (by simp only [maxLen]; omega) (by omega) ?_
          intro vb wC hownb hf2 hr2
          rw [Nat.zero_add, List.nil_append] at hownb
          have hF2 : Fr nob wB wC := hf2.mono (fun k _ hk => by cases hk)
          have hr2A : ∀ k, rowOf vb k → Bd ≤ k := fun k hk => (hr2 k hk).elim (fun h => by cases h) (fun h => by omega)
          refine hK Bd _ _ (Nat.le_refl _) (fun _ => hF2.mono (fun _ _ h => h.elim)) ?_
          clear hK K hf2 hr2
          have HBC : Hid (Below Bd wA wC) := Lib.hid (HBB.out.trans (hF2.below_nob.mono hsB))
          have HO1C := Lib.hid (Own.fr HO1B.out hF2 (fun _ h => h.elim))
          obtain ⟨Ab, cb, hvb, -, -⟩ := hownb.shape
          have HOB := Lib.hid hownb
          have HRB := Lib.hid hr2A
          have hsC : Bd ≤ wC.heap.size := by have := hF2.size; omega
          subst hvb
          clear hownb hr2A hF2 HO1B HSB
          try simp only [Act.put, List.setIfInBounds_toArray, List.set_cons_zero, List.set_cons_succ]
          refine wpSegs_cons rfl (List.getElem?_toArray ..) ?_
          simp only [pick, List.filterMap_cons, List.filterMap_nil, List.getElem?_toArray, List.getElem?_cons_succ, List.getElem?_cons_zero]
          refine wpQuiet_nil ?_
          rw [if_pos (by rfl)]
          intro K hK
          go_simp
          have hSC : Src (wC.alloc (.cells #[.slice Ab q cb] 22)) 1 (some ⟨wC.heap.size, 0, none⟩) 1 [.slice Ab q cb] := Src.of_new wC 22 #[.slice Ab q cb] 1 rfl
          have hFD : Fr nob wC (wC.alloc (.cells #[.slice Ab q cb] 22)) := (Fr.refl nob wC).alloc _
          refine hK Bd _ _ (Nat.le_refl _) (fun _ => hFD.mono (fun _ _ h => h.elim)) ?_
          clear hK K
          obtain ⟨gn, hgn⟩ : ∃ gn, gn = wC.heap.size := ⟨_, rfl⟩
          obtain ⟨wD, hwD⟩ : ∃ wD, wD = wC.alloc (.cells #[.slice Ab q cb] 22) := ⟨_, rfl⟩
          rw [← hwD] at hSC hFD ⊢
          rw [← hgn] at hSC ⊢
          have HSC := Lib.hid hSC
          have HBD : Hid (Below Bd wA wD) := Lib.hid (HBC.out.trans (hFD.below_nob.mono hsC))
          have HO1D := Lib.hid (Own.fr HO1C.out hFD (fun _ h => h.elim))
          have HOBD := Lib.hid (Own.fr HOB.out hFD (fun _ h => h.elim))
          have hsD : Bd ≤ wD.heap.size := by have := hFD.size; omega
          clear hSC hFD hwD hgn HO1C HOB
          try simp only [Act.put, List.setIfInBounds_toArray, List.set_cons_zero, List.set_cons_succ]
          refine wpSegs_cons rfl (List.getElem?_toArray ..) ?_
          simp only [pick, List.filterMap_cons, List.filterMap_nil, List.getElem?_toArray, List.getElem?_cons_succ, List.getElem?_cons_zero]
          refine wpQuiet_nil ?_
          rw [if_pos (by rfl)]
          intro K hK
          refine wp_append_o _ (.tmp 40) (.tmp 47) 48 rfl 22 i2 (.slice none 0 0) 1 24 Try.underlying48 hi2 hy0 hy1 hy2 rfl (by omega) v1 nx ux rfl HO1D.out (some ⟨gn, 0, none⟩) 1 1 [.slice Ab q cb] rfl HSC.out (by simp [Value.oneCell']) (by simp only [maxLen]; omega) (by omega) ?_
          intro v3 wE hown3 hf3 hr3
          have hF3 : Fr (geB Bd) wD wE := hf3.mono (fun k _ hk => HR1.out k hk)
          refine hK Bd _ _ (Nat.le_refl _) (fun _ => hF3) ?_
          clear hK K
          have hBE : Below Bd wA wE := HBD.out.trans (hF3.below hsD (fun k hk => hk))
          have hOBE := Own.fr HOBD.out hf3 (own_disj HO1D.out HOBD.out (by decide))
          have hr3A : ∀ k, rowOf v3 k → Bd ≤ k := fun k hk => (hr3 k hk).elim (HR1.out k) (fun h => by omega)
          obtain ⟨A3, c3, hv3, -, -⟩ := hown3.shape
          have hbE := HDA.out.keep (by rw [hAB]; exact hBE)
          have hcdE : wE.cell? ⟨d, 0, none⟩ = some (.slice (some ⟨g, 0, none⟩) n n) := hbE.blk.cell 0
          have hckE := hbE.cell k hk
          have hfz := hbE.arr.frozen k
          have hldE : d < wE.heap.size := hbE.blk.lt
          have hlgE : g < wE.heap.size := hbE.arr.lt
          have HEND := Lib.hid (rput_end HDA.out HFA.out k hk (Ax := Ax) (nx := nx) (cx := cx) HX1.out HX4.out (by rw [← HQ.out]; exact hOBE) (by rw [hAB]; exact HRB.out) (by rw [← HNX.out]; exact hown3) (by rw [hAB]; exact hr3A) (by rw [hAB]; exact hBE))
          obtain ⟨n3, hn3⟩ : ∃ n3, n3 = nx + 1 := ⟨_, rfl⟩
          rw [← hn3] at hv3
          subst hv3
          clear hown3 hf3 hr3 hF3 hBE hOBE hr3A hbE hn3 HO1D HOBD HSC hcd
          try simp only [Act.put, List.setIfInBounds_toArray, List.set_cons_zero, List.set_cons_succ]
          refine wpSegs_cons rfl (List.getElem?_toArray ..) ?_
          simp only [pick, List.filterMap_cons, List.filterMap_nil, List.getElem?_toArray, List.getElem?_cons_succ, List.getElem?_cons_zero]
          show wpQuiet _ _ _ _ [_] _
          repeat (go_big_quiet_step (fail))
          refine wpQuiet_nil ?_
          rw [if_pos (by rfl)]
          intro K hK
          go_simp
          refine hK Bd _ _ (Nat.le_refl _) (fun h => absurd rfl h) ?_
          clear hK K
          refine wpSegs_nil rfl ?_
          refine wpQuiet_nil ?_
          refine NoPan.normal ?_
          try simp only [Act.put, List.setIfInBounds_toArray, List.set_cons_zero, List.set_cons_succ]
          go_wp2_with fail
          go_roundw
          case rel =>
            have h8 := HEND.out
            refine ⟨i + 1, rs1.set k (.slice A3 n3 c3), by omega, by go_num, by rw [HPS.out, List.length_append, ← HCN.out]; go_num, ?_, HFRA.out.trans h8.2, HDCA.out.step HDA.out h8.2⟩
            have h9 := h8.1
            have h10 : L1.set k (L1.getD k [] ++ [x]) = L.set k (L.getD k [] ++ (T ++ [x])) := by rw [HGK.out, HL1.out, List.set_set, List.append_assoc]
            rw [h10] at h9
            rw [HPS.out]
            exact h9
          case measure => simp [intOf]; omega
        · have hdc : decide ((cn : Int) < mo) = false := decide_eq_false hcm
          rw [if_neg (fun h => hcm h.2)] at hps
          have HPS := Lib.hid hps
          clear hps hr1 he hem hil hq hT hcn hcm
          go_wp2_with fail
          go_roundw
          case rel => exact ⟨i + 1, rs1, by omega, by go_num, by rw [HPS.out, ← HCN.out], by rw [HPS.out]; exact HDD.out, HFR.out, HDC.out⟩
          case measure => simp [intOf]; omega
      · have hne : ((rm : Int) == (k : Int)) = false := by rw [beq_eq_false_iff_ne]; exact hek
        rw [if_neg (fun h => hek h.1)] at hps
        have HPS := Lib.hid hps
        clear hps hr1 he hem hil hq hT hcn hek
        go_wp2_with fail
        go_roundw
        case rel => exact ⟨i + 1, rs1, by omega, by go_num, by rw [HPS.out, ← HCN.out], by rw [HPS.out]; exact HDD.out, HFR.out, HDC.out⟩
        case measure => simp [intOf]; omega
    · obtain rfl : i = m := by omega
      have hd : decide ((i : Int) < (i : Int)) = false := decide_eq_false (by omega)
      have htk : fl.take i = fl := List.take_of_length_le (by rw [← HDC.out.len]; exact Nat.le_refl _)
      rw [htk] at HDD ⊢
      clear htk
      go_wp2_with fail
      go_end0
      exact ⟨rfl, rs1, HDD.out, HFR.out⟩
end Go.Proofs.Ytnlkjhhocehhaaa
namespace Go.Proofs.Ytnlkjhhocehhaaa
set_option linter.unusedVariables false
open Go Go.RowKit Go.Proofs Sha Go.BigFrame
theorem recsL_get (L : List (List (List UInt8))) (k : Nat) : (L.map (fun R => (recs R).length)).getD k 0 = (recs (L.getD k [])).length := by
  simp only [List.getD_eq_getElem?_getD, List.getElem?_map]
  cases L[k]? <;> rfl
set_option maxRecDepth 100000 in
set_option maxHeartbeats 8000000 in
theorem rmay_any {F : Nat → Prop} {w W : World} {d g n : Nat} {rs : List Value} {L : List (List (List UInt8))} {br : Bool} (h : RDk F w W d g n rs L br) (hn : n ≤ 100) {A : Option Addr} {m c : Nat} {fl : List Wr} (hd : Docs w W A m c fl) (hz : ∀ k, (recs (L.getD k [])).length ≤ 200000) :
    Calls Try.prog 84 #[dP d, .slice A m c] W fun e W' => e = .returned (.int .i64 (mayR br L fl)) ∧ Below W.heap.size W W' := by
  have hcb : W.cell? ⟨d, 1, none⟩ = some (.bool br) := h.blk.cell 1
  have hcd : W.cell? ⟨d, 0, none⟩ = some (.slice (some ⟨g, 0, none⟩) n n) := h.blk.cell 0
  have HD := Lib.hid h
  have HDO := Lib.hid hd
  have HZ := Lib.hid hz
  have hm20 := hd.few
  have hmf := Lib.hid hd.len
  cases br with
  | true =>
    clear h hd hz
    go_enter Try.func84, Try.ntmps84
    go_wp2_with fail
    go_ret
    exact ⟨rfl, Below.refl _ _⟩
  | false =>
    have hlen : (L.map (fun R => (recs R).length)).length = n := by rw [List.length_map, h.n2]
    have hmay : mayR false L fl = if fl.any (badW n) then 5 else if fl.any longW then 4 else if (List.range n).any (fun k => decide (0 < moreN fl k) && decide (60000 < (L.map (fun R => (recs R).length)).getD k 0 + moreN fl k)) then 7 else 0 := by
      unfold mayR mayD; rw [hlen]; rfl
    obtain ⟨rr, hrr⟩ : ∃ rr, rr = mayR false L fl := ⟨_, rfl⟩
    rw [← hrr] at hmay ⊢
    have HMAY := Lib.hid hmay
    have hni : (n : Int) ≤ 100 := by omega
    have hmi : (m : Int) ≤ 20 := by omega
    have hmk := fun W => make28 n hn W
    clear h hd hz hrr hmay hlen
    go_enter Try.func84, Try.ntmps84
    go_wp2_with fail
    clear hmk
    obtain ⟨wT, hwT⟩ : ∃ wT, wT = W.alloc (.cells (moreL n []).toArray 3) := ⟨_, rfl⟩
    have hgm : Blk wT W.heap.size 3 (moreL n []).toArray := by rw [hwT]; exact Blk.new W 3 _
    have hBT : Below W.heap.size W wT := by rw [hwT]; exact (Below.refl _ W).alloc (Nat.le_refl _) _
    show Code.wp _ _ _ _ (W.alloc (.cells (moreL n []).toArray 3))
    rw [← hwT]
    obtain ⟨gm, hg⟩ : ∃ gm, gm = W.heap.size := ⟨_, rfl⟩
    rw [← hg] at hgm ⊢
    have HGE := Lib.hid hg
    have HGM := Lib.hid hgm
    have HBT := Lib.hid hBT
    clear hwT hg hgm hBT
    go_loopw [6] (fun c6 wr => ∃ i : Nat, i ≤ m ∧ c6 = .int .i64 (i : Int) ∧ (fl.take i).any (badW n) = false ∧ Below wT.heap.size wT wr) (fun c6 _ => m - (intOf c6).toNat)
    case atStart => exact ⟨0, by omega, rfl, rfl, Below.refl _ _⟩
    case round =>
      obtain ⟨i, hi, rfl, hbad, hB⟩ := hrel
      have HBAD := Lib.hid hbad
      have HB := Lib.hid hB
      have HWr : Hid (Below W.heap.size W wr) := Lib.hid (HBT.out.trans (hB.mono HBT.out.size))
      clear hbad hB
      by_cases him : i < m
      · have hd : decide ((i : Int) < (m : Int)) = true := decide_eq_true (by omega)
        have hil : i < fl.length := by rw [← HDO.out.len]; exact him
        have hDoc := HDO.out.keep HWr.out
        obtain ⟨g1, o1, hA1, hg1, hr1⟩ := hDoc.at_ i him
        subst hA1
        obtain ⟨e, he⟩ : ∃ e, e = fl.getD i default := ⟨_, rfl⟩
        have hem : e ∈ fl := by rw [he, show fl.getD i default = fl[i] by simp [hil]]; exact List.getElem_mem hil
        have hts : fl.take (i + 1) = fl.take i ++ [e] := by rw [List.take_succ_eq_append_getElem hil, he]; simp [hil]
        rw [← he] at hr1
        have hc0 : wr.cell? ⟨g1, o1 + i * 2, none⟩ = some (.int .i64 e.room) := hr1 0 _ rfl
        have hcr : wr.cell? ⟨d, 0, none⟩ = some (.slice (some ⟨g, 0, none⟩) n n) := (HD.out.keep HWr.out).blk.cell 0
        have hdl : d < wr.heap.size := (HD.out.keep HWr.out).blk.lt
        have HTS := Lib.hid hts
        have HEM := Lib.hid hem
        obtain ⟨rm, hrm⟩ : ∃ rm, rm = e.room := ⟨_, rfl⟩
        rw [← hrm] at hc0
        have HRM := Lib.hid hrm
        have h0i : (0 : Int) ≤ (i : Int) := by omega
        have hii : (i : Int) < (m : Int) := by omega
        clear he hem hts hr1 hil hrm hDoc hcb hcd
        by_cases hr0 : rm < 0
        · have hd0 : decide (rm < 0) = true := decide_eq_true hr0
          go_wp2_with fail
          refine wp_region_quiet_lit (by kernel_rfl) (by kernel_rfl) ?_
          repeat (go_big_quiet_step (fail))
          refine wpQuiet_nil ?_
          intro w2 hw2
          obtain ⟨k2, hw2⟩ := hw2
          have hb2 : Below wr.heap.size wr w2 := by rw [hw2]; exact ⟨rfl, rfl, rfl, Nat.le_refl _, fun _ _ => rfl⟩
          clear hw2
          go_wp2_with fail
          go_ret
          refine ⟨?_, HWr.out.trans (hb2.mono HWr.out.size)⟩
          have h9 := HMAY.out
          rw [if_pos (List.any_eq_true.2 ⟨_, HEM.out, by unfold badW; rw [← HRM.out]; simp [hr0]⟩)] at h9
          rw [h9]; rfl
        · have hd0 : decide (rm < 0) = false := decide_eq_false hr0
          by_cases hrn : (n : Int) ≤ rm
          · have hd1 : decide ((n : Int) ≤ rm) = true := decide_eq_true hrn
            go_wp2_with fail
            refine wp_region_quiet_lit (by kernel_rfl) (by kernel_rfl) ?_
            repeat (go_big_quiet_step (fail))
            refine wpQuiet_nil ?_
            intro w2 hw2
            obtain ⟨k2, hw2⟩ := hw2
            have hb2 : Below wr.heap.size wr w2 := by rw [hw2]; exact ⟨rfl, rfl, rfl, Nat.le_refl _, fun _ _ => rfl⟩
            clear hw2
            go_wp2_with fail
            go_ret
            refine ⟨?_, HWr.out.trans (hb2.mono HWr.out.size)⟩
            have h9 := HMAY.out
            rw [if_pos (List.any_eq_true.2 ⟨_, HEM.out, by unfold badW; rw [← HRM.out]; simp [hrn]⟩)] at h9
            rw [h9]; rfl
          · have hd1 : decide ((n : Int) ≤ rm) = false := decide_eq_false hrn
            go_wp2_with fail
            refine wp_region_quiet_lit (by kernel_rfl) (by kernel_rfl) ?_
            repeat (go_big_quiet_step (fail))
            refine wpQuiet_nil ?_
            intro w2 hw2
            obtain ⟨k2, hw2⟩ := hw2
            have hb2 : Below wr.heap.size wr w2 := by rw [hw2]; exact ⟨rfl, rfl, rfl, Nat.le_refl _, fun _ _ => rfl⟩
            clear hw2
            go_wp2_with fail
            go_roundw
            case rel =>
              refine ⟨i + 1, by omega, by go_num, ?_, HB.out.trans (hb2.mono HB.out.size)⟩
              rw [HTS.out, List.any_append, HBAD.out]
              simp [badW, ← HRM.out]
              omega
            case measure => simp [intOf]; omega
      · obtain rfl : i = m := by omega
        have hd : decide ((i : Int) < (i : Int)) = false := decide_eq_false (by omega)
        have htk : fl.take i = fl := List.take_of_length_le (by rw [← HDO.out.len]; exact Nat.le_refl _)
        rw [htk] at HBAD
        have hm2 := HMAY.out
        rw [if_neg (by rw [HBAD.out]; simp)] at hm2
        have HM2 := Lib.hid hm2
        clear htk hm2 hcb hcd
        obtain ⟨wU, rfl⟩ : ∃ wU : World, wU = wr := ⟨_, rfl⟩
        have HGU := Lib.hid (HGM.out.below HB.out HGM.out.lt)
        go_wp2_with fail
        go_loopw [7] (fun c7 wx => ∃ j : Nat, j ≤ i ∧ c7 = .int .i64 (j : Int) ∧ (fl.take j).any longW = false ∧ Blk wx gm 3 (moreL n (fl.take j)).toArray ∧ Below W.heap.size W wx) (fun c7 _ => i - (intOf c7).toNat)
        case atStart => exact ⟨0, by omega, rfl, rfl, HGU.out, HWr.out⟩
        case round =>
          obtain ⟨j, hj, rfl, hlo, hgr, hBx⟩ := hrel
          have HLO := Lib.hid hlo
          have HGR := Lib.hid hgr
          have HBX := Lib.hid hBx
          clear hlo hgr hBx
          by_cases hji : j < i
          · have hd2 : decide ((j : Int) < (i : Int)) = true := decide_eq_true (by omega)
            have hjl : j < fl.length := by rw [← HDO.out.len]; exact hji
            have hDoc := HDO.out.keep HBX.out
            obtain ⟨g1, o1, hA1, hg1, hr1⟩ := hDoc.at_ j hji
            subst hA1
            obtain ⟨e, he⟩ : ∃ e, e = fl.getD j default := ⟨_, rfl⟩
            have hem : e ∈ fl := by rw [he, show fl.getD j default = fl[j] by simp [hjl]]; exact List.getElem_mem hjl
            have hts : fl.take (j + 1) = fl.take j ++ [e] := by rw [List.take_succ_eq_append_getElem hjl, he]; simp [hjl]
            have hbe : badW n e = false := by
              have := HBAD.out
              rw [List.any_eq_false] at this
              simpa using this e hem
            have hxl := HDO.out.lens e hem
            rw [← he] at hr1
            have hc0 : wr.cell? ⟨g1, o1 + j * 2, none⟩ = some (.int .i64 e.room) := hr1 0 _ rfl
            have hc1 : wr.cell? ⟨g1, o1 + j * 2 + 1, none⟩ = some e.u := hr1 1 _ rfl
            have HTS := Lib.hid hts
            have HEM := Lib.hid hem
            obtain ⟨k, hk, hkn⟩ := badW_room hbe
            obtain ⟨rm, PA, pc, x⟩ := e
            unfold Wr.u at hc1
            simp only at hc0 hc1 hk hxl
            subst hk
            obtain ⟨xl, hxle⟩ : ∃ xl, xl = x.length := ⟨_, rfl⟩
            rw [← hxle] at hc1 hxl
            have HXL := Lib.hid hxle
            have h0j : (0 : Int) ≤ (j : Int) := by omega
            have hjj : (j : Int) < (i : Int) := by omega
            clear he hem hts hr1 hjl hbe hDoc hxle
            by_cases h40 : 4000 < xl
            · have hd4 : decide ((4000 : Int) < (xl : Int)) = true := decide_eq_true (by omega)
              have hd44 : decide (4000 < xl) = true := decide_eq_true h40
              go_wp2_with fail
              go_ret
              refine ⟨?_, HBX.out⟩
              have h9 := HM2.out
              rw [if_pos (List.any_eq_true.2 ⟨_, HEM.out, by unfold longW; simp only; rw [← HXL.out]; exact hd44⟩)] at h9
              rw [h9]; rfl
            · have hd4 : decide ((4000 : Int) < (xl : Int)) = false := decide_eq_false (by omega)
              have hd44 : decide (4000 < xl) = false := decide_eq_false h40
              have hgk : wr.cell? ⟨gm, k, none⟩ = some (.int .i64 (moreN (fl.take j) k : Int)) := by rw [HGR.out.cell]; exact moreL_get n _ k (by omega)
              have hgl : gm < wr.heap.size := HGR.out.lt
              have hMl := moreN_le (fl.take j) k (fun e he => HDO.out.lens e (List.mem_of_mem_take he))
              rw [List.length_take] at hMl
              obtain ⟨M, hM⟩ : ∃ M, M = moreN (fl.take j) k := ⟨_, rfl⟩
              rw [← hM] at hgk hMl
              have hMi : (M : Int) ≤ 200120 := by omega
              have HM := Lib.hid hM
              have hxli : (xl : Int) ≤ 10000 := by omega
              have hk0 : (0 : Int) ≤ (k : Int) := by omega
              have hkni : (k : Int) < (n : Int) := by omega
              clear hM hMl
              go_wp2_with fail
              refine wp_region_pre 17 0 (by kernel_rfl) (by kernel_rfl) rfl ?_
              simp only [List.take_succ_cons, List.take_zero, List.drop_succ_cons, List.drop_zero]
              repeat (go_big_quiet_step (fail))
              refine wpQuiet_nil ?_
              intro w3 hb3
              have hg3 := HGR.out.below hb3 HGR.out.lt
              have hgk3 : w3.cell? ⟨gm, k, none⟩ = some (.int .i64 (M : Int)) := by
                rw [HM.out, hg3.cell]; exact moreL_get n _ k (by omega)
              have hgf3 := hg3.frozen k
              have HG3 := Lib.hid hg3
              have HB3 := Lib.hid hb3
              clear hgk hg3 hb3
              go_wp2_with fail
              go_roundw
              case rel =>
                refine ⟨j + 1, by omega, by go_num, ?_, ?_, ?_⟩
                · rw [HTS.out, List.any_append, HLO.out]
                  simp [longW, ← HXL.out]
                  omega
                · rw [HTS.out]
                  have h8 := HG3.out.set_ k (.int .i64 ((M : Int) + (6 + (xl : Int))))
                  rw [HM.out, HXL.out] at h8
                  rw [← moreL_set n (fl.take j) ⟨(k : Int), PA, pc, x⟩ k (by omega) rfl]
                  rw [HM.out, HXL.out]
                  exact h8
                · have s1 := HBX.out.size
                  exact (HBX.out.trans (HB3.out.mono s1)).trans (((Fr.refl (one gm) w3).setCell' (.inl rfl) _).below (by have := HB3.out.size; omega) (fun q hq => by unfold one at hq; subst hq; have := HGE.out; omega))
              case measure => simp [intOf]; omega
          · obtain rfl : j = i := by omega
            have hd2 : decide ((j : Int) < (j : Int)) = false := decide_eq_false (by omega)
            have htk : fl.take j = fl := List.take_of_length_le (by rw [← HDO.out.len]; exact Nat.le_refl _)
            rw [htk] at HLO HGR
            have hm3 := HM2.out
            rw [if_neg (by rw [HLO.out]; simp)] at hm3
            have HM3 := Lib.hid hm3
            clear htk hm3
            obtain ⟨wX, rfl⟩ : ∃ wX : World, wX = wr := ⟨_, rfl⟩
            have HDX := Lib.hid (HD.out.keep HBX.out)
            go_wp2_with fail
            go_loopw [8] (fun c8 wx => ∃ k : Nat, k ≤ n ∧ c8 = .int .i64 (k : Int) ∧ (∀ q, q < k → (decide (0 < moreN fl q) && decide (60000 < (L.map (fun R => (recs R).length)).getD q 0 + moreN fl q)) = false) ∧ Below wX.heap.size wX wx) (fun c8 _ => n - (intOf c8).toNat)
            case atStart => exact ⟨0, by omega, rfl, fun j hj => by omega, Below.refl _ _⟩
            case round =>
              obtain ⟨k, hk, rfl, hno, hBz⟩ := hrel
              have HNO := Lib.hid hno
              have HBZ := Lib.hid hBz
              clear hno hBz
              by_cases hkn : k < n
              · have hd3 : decide ((k : Int) < (n : Int)) = true := decide_eq_true (by omega)
                have hgx := HGR.out.below HBZ.out HGR.out.lt
                have hgk : wr.cell? ⟨gm, k, none⟩ = some (.int .i64 (moreN fl k : Int)) := by rw [hgx.cell]; exact moreL_get n _ k hkn
                have hgl : gm < wr.heap.size := hgx.lt
                have hMl := moreN_le fl k HDO.out.lens
                have hll := HZ.out k
                have hgd := recsL_get L k
                obtain ⟨M, hM⟩ : ∃ M, M = moreN fl k := ⟨_, rfl⟩
                obtain ⟨ll, hlle⟩ : ∃ ll, ll = (recs (L.getD k [])).length := ⟨_, rfl⟩
                have HSZ := Lib.hid (fun W' (hb : Below wr.heap.size wr W') => rsize_any ((HDX.out.keep HBZ.out).keep hb) hn k hkn (by omega))
                rw [← hlle] at hll hgd HSZ
                rw [← hM] at hgk hMl
                have hMi : (M : Int) ≤ 200120 := by have := HDO.out.len; have := HDO.out.few; omega
                have hli : (ll : Int) ≤ 200000 := by omega
                have hk0 : (0 : Int) ≤ (k : Int) := by omega
                have hkn3 : (k : Int) < (n : Int) := by omega
                have HMM := Lib.hid hM
                have HGD := Lib.hid hgd
                have HGX := Lib.hid hgx
                clear hMl hll hgd hM hlle hgx
                by_cases h0 : 0 < M
                · have h01 : decide ((0 : Int) < (M : Int)) = true := decide_eq_true (by omega)
                  have h02 : decide (0 < M) = true := decide_eq_true h0
                  by_cases h6 : 60000 < ll + M
                  · have h61 : decide ((60000 : Int) < (ll : Int) + (M : Int)) = true := decide_eq_true (by omega)
                    go_wp2_with fail
                    refine wp_region_grow 16 [([0, 1, 2, 3, 4, 5, 6, 7, 9, 10, 11, 12], 8)] [13, 14, 15] (by kernel_rfl) (by kernel_rfl) ?_
                    obtain ⟨Bd, hBd⟩ : ∃ Bd, Bd = wr.heap.size := ⟨_, rfl⟩
                    have hAB : wr.drew.heap.size = Bd := hBd.symm
                    have hBA : Below wr.heap.size wr wr.drew := (Below.refl wr.heap.size wr).drew
                    have hgkA : wr.drew.cell? ⟨gm, k, none⟩ = some (.int .i64 (M : Int)) := hgk
                    have HC := Lib.hid (HSZ.out _ hBA)
                    obtain ⟨wA, hwA⟩ : ∃ wA, wA = wr.drew := ⟨_, rfl⟩
                    rw [← hwA] at hgkA hAB hBA HC ⊢
                    rw [← hBd] at hgl ⊢
                    have hglA : gm < wA.heap.size := by omega
                    have HBA := Lib.hid hBA
                    clear hwA hBd hgk hBA
                    try simp only [Act.put, List.setIfInBounds_toArray, List.set_cons_zero, List.set_cons_succ]
                    refine wpSegs_cons rfl (List.getElem?_toArray ..) ?_
                    simp only [pick, List.filterMap_cons, List.filterMap_nil, List.getElem?_toArray, List.getElem?_cons_succ, List.getElem?_cons_zero]
                    show wpQuiet _ _ _ _ [_, _, _, _, _, _, _, _, _, _, _, _] _
                    repeat (go_big_quiet_step (fail))
                    refine wpQuiet_nil ?_
                    rw [if_pos (by rfl)]
                    intro K hK
                    go_simp
                    go_at_call 66
                    refine HC.out.mono ?_
                    rintro en wC ⟨rfl, rfl⟩
                    refine hK Bd _ _ (Nat.le_refl _) (fun _ => Fr.refl _ _) ?_
                    clear hK K HC
                    try simp only [Act.put, List.setIfInBounds_toArray, List.set_cons_zero, List.set_cons_succ]
                    refine wpSegs_nil rfl ?_
                    simp only [pick, List.filterMap_cons, List.filterMap_nil, List.getElem?_toArray, List.getElem?_cons_succ, List.getElem?_cons_zero]
                    show wpQuiet _ _ _ _ [_, _, _] _
                    repeat (go_big_quiet_step (fail))
                    refine wpQuiet_nil ?_
                    refine NoPan.normal ?_
                    try simp only [Act.put, List.setIfInBounds_toArray, List.set_cons_zero, List.set_cons_succ]
                    go_wp2_with fail
                    go_ret
                    refine ⟨?_, HBX.out.trans ((HBZ.out.trans (HBA.out.mono HBZ.out.size)).mono HBX.out.size)⟩
                    have h9 := HM3.out
                    rw [if_pos (List.any_eq_true.2 ⟨k, List.mem_range.2 hkn, by rw [HGD.out, ← HMM.out]; simp [h0, h6]⟩)] at h9
                    rw [h9]; rfl
                  · have h61 : decide ((60000 : Int) < (ll : Int) + (M : Int)) = false := decide_eq_false (by omega)
                    go_wp2_with fail
                    refine wp_region_grow 16 [([0, 1, 2, 3, 4, 5, 6, 7, 9, 10, 11, 12], 8)] [13, 14, 15] (by kernel_rfl) (by kernel_rfl) ?_
                    obtain ⟨Bd, hBd⟩ : ∃ Bd, Bd = wr.heap.size := ⟨_, rfl⟩
                    have hAB : wr.drew.heap.size = Bd := hBd.symm
                    have hBA : Below wr.heap.size wr wr.drew := (Below.refl wr.heap.size wr).drew
                    have hgkA : wr.drew.cell? ⟨gm, k, none⟩ = some (.int .i64 (M : Int)) := hgk
                    have HC := Lib.hid (HSZ.out _ hBA)
                    obtain ⟨wA, hwA⟩ : ∃ wA, wA = wr.drew := ⟨_, rfl⟩
                    rw [← hwA] at hgkA hAB hBA HC ⊢
                    rw [← hBd] at hgl ⊢
                    have hglA : gm < wA.heap.size := by omega
                    have HBA := Lib.hid hBA
                    clear hwA hBd hgk hBA
                    try simp only [Act.put, List.setIfInBounds_toArray, List.set_cons_zero, List.set_cons_succ]
                    refine wpSegs_cons rfl (List.getElem?_toArray ..) ?_
                    simp only [pick, List.filterMap_cons, List.filterMap_nil, List.getElem?_toArray, List.getElem?_cons_succ, List.getElem?_cons_zero]
                    show wpQuiet _ _ _ _ [_, _, _, _, _, _, _, _, _, _, _, _] _
                    repeat (go_big_quiet_step (fail))
                    refine wpQuiet_nil ?_
                    rw [if_pos (by rfl)]
                    intro K hK
                    go_simp
                    go_at_call 66
                    refine HC.out.mono ?_
                    rintro en wC ⟨rfl, rfl⟩
                    refine hK Bd _ _ (Nat.le_refl _) (fun _ => Fr.refl _ _) ?_
                    clear hK K HC
                    try simp only [Act.put, List.setIfInBounds_toArray, List.set_cons_zero, List.set_cons_succ]
                    refine wpSegs_nil rfl ?_
                    simp only [pick, List.filterMap_cons, List.filterMap_nil, List.getElem?_toArray, List.getElem?_cons_succ, List.getElem?_cons_zero]
                    show wpQuiet _ _ _ _ [_, _, _] _
                    repeat (go_big_quiet_step (fail))
                    refine wpQuiet_nil ?_
                    refine NoPan.normal ?_
                    try simp only [Act.put, List.setIfInBounds_toArray, List.set_cons_zero, List.set_cons_succ]
                    go_wp2_with fail
                    go_roundw
                    case rel =>
                      refine ⟨k + 1, by omega, by go_num, fun j hj => ?_, HBZ.out.trans (HBA.out.mono HBZ.out.size)⟩
                      rcases Nat.lt_or_ge j k with h | h
                      · exact HNO.out j h
                      · obtain rfl : j = k := by omega
                        rw [HGD.out, ← HMM.out]; simp [h6]
                    case measure => simp [intOf]; omega
                · have h01 : decide ((0 : Int) < (M : Int)) = false := decide_eq_false (by omega)
                  have h02 : decide (0 < M) = false := decide_eq_false h0
                  go_wp2_with fail
                  refine wp_region_quiet_lit (by kernel_rfl) (by kernel_rfl) ?_
                  repeat (go_big_quiet_step (fail))
                  refine wpQuiet_nil ?_
                  intro w2 hw2
                  obtain ⟨k2, hw2⟩ := hw2
                  have hb2 : Below wr.heap.size wr w2 := by rw [hw2]; exact ⟨rfl, rfl, rfl, Nat.le_refl _, fun _ _ => rfl⟩
                  clear hw2
                  go_wp2_with fail
                  go_roundw
                  case rel =>
                    refine ⟨k + 1, by omega, by go_num, fun j hj => ?_, HBZ.out.trans (hb2.mono HBZ.out.size)⟩
                    rcases Nat.lt_or_ge j k with h | h
                    · exact HNO.out j h
                    · obtain rfl : j = k := by omega
                      rw [← HMM.out]; simp [h0]
                  case measure => simp [intOf]; omega
              · obtain rfl : k = n := by omega
                have hd3 : decide ((k : Int) < (k : Int)) = false := decide_eq_false (by omega)
                go_wp2_with fail
                go_ret
                refine ⟨?_, HBX.out.trans (HBZ.out.mono HBX.out.size)⟩
                have h9 := HM3.out
                rw [if_neg (fun hh => by
                  obtain ⟨j, hj1, hj2⟩ := List.any_eq_true.1 hh
                  rw [HNO.out j (List.mem_range.1 hj1)] at hj2
                  cases hj2)] at h9
                rw [h9]; rfl
end Go.Proofs.Ytnlkjhhocehhaaa
namespace Go.Proofs.Ytnlkjhhocehhaaa
set_option linter.unusedVariables false
open Go Go.RowKit Go.Proofs Sha Go.BigFrame
/-- Rooms to which something is added, up to a room. -/
def upR (n : Nat) (L : List (List (List UInt8))) (f : Nat → List (List UInt8)) (r : Nat) : List (List (List UInt8)) := (List.range n).map (fun k => if k < r then L.getD k [] ++ f k else L.getD k [])
section
variable {n : Nat} {L : List (List (List UInt8))} {f : Nat → List (List UInt8)}
theorem upR_zero (h : L.length = n) : upR n L f 0 = L := by
  unfold upR
  refine List.ext_getElem (by simp [h]) (fun i h1 h2 => ?_)
  simp [h2]
theorem upR_get (r k : Nat) (hk : k < n) : (upR n L f r).getD k [] = if k < r then L.getD k [] ++ f k else L.getD k [] := by
  unfold upR; simp [List.getD_eq_getElem?_getD, hk]
theorem upR_succ (r : Nat) (hr : r < n) : upR n L f (r + 1) = (upR n L f r).set r ((upR n L f r).getD r [] ++ f r) := by
  rw [upR_get r r hr, if_neg (by omega)]
  unfold upR
  refine List.ext_getElem (by simp) (fun i h1 h2 => ?_)
  rw [List.getElem_set]
  simp only [List.getElem_map, List.getElem_range]
  by_cases e : r = i
  · subst e; rw [if_pos rfl, if_pos (by omega)]
  · rw [if_neg e]
    by_cases h : i < r
    · rw [if_pos h, if_pos (by omega)]
    · rw [if_neg h, if_neg (by omega)]
theorem upR_all (r : Nat) (hr : ∀ k, k < n → r ≤ k → f k = []) : upR n L f r = addL n L f := by
  unfold upR addL
  refine List.map_congr_left (fun k hk => ?_)
  have hkn := List.mem_range.1 hk
  by_cases h : k < r
  · rw [if_pos h]
  · rw [if_neg h, hr k hkn (by omega), List.append_nil]
end
theorem sel_take_all (k : Int) (fl : List Wr) (m : Nat) (hm : m = fl.length) : (sel k fl).take (m : Int).toNat = sel k fl := List.take_of_length_le (by have := sel_len k fl; omega)
set_option maxRecDepth 100000 in
set_option maxHeartbeats 8000000 in
theorem rwrite_any {F : Nat → Prop} {w W : World} {d g n : Nat} {rs : List Value} {L : List (List (List UInt8))} {br : Bool} (h : RDk F w W d g n rs L br) (hF : ∀ k, F k → k < W.heap.size) (hn : n ≤ 100) {A : Option Addr} {m c : Nat} {fl : List Wr} (hd : Docs w W A m c fl) (hz : ∀ k, (recs (L.getD k [])).length ≤ 60000) :
    Calls Try.prog 61 #[dP d, .slice A m c] W fun e W' => e = .returned (.int .i64 (mayR br L fl)) ∧ RTo F w d g n W (writeR n L fl br) br W' := by
  have HM := Lib.hid (rmay_any h hn hd (fun k => Nat.le_trans (hz k) (by omega)))
  obtain ⟨rr, hrr⟩ : ∃ rr, rr = mayR br L fl := ⟨_, rfl⟩
  obtain ⟨L', hL'⟩ : ∃ L', L' = writeR n L fl br := ⟨_, rfl⟩
  have HL' : Hid (L' = if rr = 0 then addL n L (fun k => sel (k : Int) fl) else L) := Lib.hid (by rw [hL', hrr]; rfl)
  rw [← hrr] at HM ⊢
  rw [← hL']
  have HD := Lib.hid h
  have HDO := Lib.hid hd
  have HF := Lib.hid hF
  have HZ := Lib.hid hz
  clear h hd hF hz hrr hL'
  by_cases h0 : rr = 0
  · subst h0
    rw [if_pos rfl] at HL'
    go_enter Try.func61, Try.ntmps61
    go_wp2_with (first
      | (go_at_call 84
         refine HM.out.mono ?_
         rintro e w2 ⟨rfl, hb2⟩
         have HD2 := Lib.hid (HD.out.keep hb2)
         have HDO2 := Lib.hid (HDO.out.keep hb2)
         have HW2 := Lib.hid hb2
         clear hb2)
      | fail)
    go_loopw [6] (fun c6 wr => ∃ (r : Nat) (rs1 : List Value), r ≤ n ∧ c6 = .int .i64 (r : Int) ∧ RDk F w wr d g n rs1 (upR n L (fun k => sel (k : Int) fl) r) br ∧ Fr (r2 d g) W wr ∧ Docs w wr A m c fl) (fun c6 _ => n - (intOf c6).toNat)
    case atStart => exact ⟨0, rs, by omega, rfl, by rw [upR_zero HD.out.n2]; exact HD2.out, Fr.of_below HW2.out _, HDO2.out⟩
    case round =>
      obtain ⟨r, rs1, hr, rfl, hD, hFr, hDo⟩ := hrel
      have HDD := Lib.hid hD
      have HFR := Lib.hid hFr
      have HDC := Lib.hid hDo
      have hcd : wr.cell? ⟨d, 0, none⟩ = some (.slice (some ⟨g, 0, none⟩) n n) := hD.blk.cell 0
      clear hD hFr hDo
      by_cases hrn : r < n
      · have hd : decide ((r : Int) < (n : Int)) = true := decide_eq_true (by omega)
        have hup := upR_succ (L := L) (f := fun k => sel (k : Int) fl) r hrn
        have hug := upR_get (L := L) (f := fun k => sel (k : Int) fl) r r hrn
        rw [if_neg (by omega)] at hug
        have HP := Lib.hid (rput_any HDD.out (fun k hk => Nat.lt_of_lt_of_le (HF.out k hk) HFR.out.size) hn HDC.out r hrn (m : Int) (by rw [hug]; have := HZ.out r; have := recs_count (L.getD r []); omega))
        rw [sel_take_all _ _ _ HDC.out.len, ← hup] at HP
        clear hup hug
        go_wp2_with (first
          | (go_at_call 85
             refine HP.out.mono ?_
             rintro e w3 ⟨rfl, rs2, hD3, hF3⟩)
          | fail)
        go_roundw
        case rel => exact ⟨r + 1, rs2, by omega, by go_num, hD3, HFR.out.trans hF3, HDC.out.step HDD.out hF3⟩
        case measure => simp [intOf]; omega
      · obtain rfl : r = n := by omega
        have hd : decide ((r : Int) < (r : Int)) = false := decide_eq_false (by omega)
        rw [upR_all r (fun k hk hk2 => by omega), ← HL'.out] at HDD
        go_wp2_with fail
        go_ret
        exact ⟨rfl, rs1, HDD.out, HFR.out⟩
  · rw [if_neg h0] at HL'
    have hne : ((rr : Int) == 0) = false := by rw [beq_eq_false_iff_ne]; exact h0
    go_enter Try.func61, Try.ntmps61
    go_wp2_with (first
      | (go_at_call 84
         refine HM.out.mono ?_
         rintro e w2 ⟨rfl, hb2⟩
         have HD2 := Lib.hid (HD.out.keep hb2)
         have HW2 := Lib.hid hb2
         have hcd : w2.cell? ⟨d, 0, none⟩ = some (.slice (some ⟨g, 0, none⟩) n n) := HD2.out.blk.cell 0
         clear hb2)
      | fail)
    go_loopw [6] (fun c6 wr => c6 = .int .i64 0 ∧ wr = w2) (fun c6 _ => n - (intOf c6).toNat)
    case atStart => exact ⟨rfl, rfl⟩
    case round =>
      obtain ⟨rfl, rfl⟩ := hrel
      by_cases hrn : 0 < n
      · have hd : decide ((0 : Int) < (n : Int)) = true := decide_eq_true (by omega)
        have hdn : decide (0 < n) = true := decide_eq_true hrn
        go_wp2_with fail
        go_ret
        exact ⟨rfl, by rw [HL'.out]; exact RTo.same HD.out HW2.out⟩
      · have hd : decide ((0 : Int) < (n : Int)) = false := decide_eq_false (by omega)
        have hdn : decide (0 < n) = false := decide_eq_false hrn
        go_wp2_with fail
        go_ret
        exact ⟨rfl, by rw [HL'.out]; exact RTo.same HD.out HW2.out⟩
set_option maxRecDepth 100000 in
set_option maxHeartbeats 8000000 in
theorem rpart_any {F : Nat → Prop} {w W : World} {d g n : Nat} {rs : List Value} {L : List (List (List UInt8))} {br : Bool} (h : RDk F w W d g n rs L br) (hF : ∀ k, F k → k < W.heap.size) (hn : n ≤ 100) {A : Option Addr} {m c : Nat} {fl : List Wr} (hd : Docs w W A m c fl) (hz : ∀ k, (recs (L.getD k [])).length ≤ 60000) (room q torn : Int) :
    Calls Try.prog 62 #[dP d, .slice A m c, .int .i64 room, .int .i64 q] W fun e W' => e = .returned (.int .i64 (mayR br L fl)) ∧ RTo F w d g n W (partR n L fl br room q torn) (if mayR br L fl = 0 then true else br) W' := by
  have HM := Lib.hid (rmay_any h hn hd (fun k => Nat.le_trans (hz k) (by omega)))
  obtain ⟨rr, hrr⟩ : ∃ rr, rr = mayR br L fl := ⟨_, rfl⟩
  obtain ⟨L', hL'⟩ : ∃ L', L' = partR n L fl br room q torn := ⟨_, rfl⟩
  have HL' : Hid (L' = if rr = 0 then addL n L (fun r => partL room q torn (r : Int) (sel (r : Int) fl)) else L) := Lib.hid (by rw [hL', hrr]; rfl)
  rw [← hrr] at HM ⊢
  rw [← hL']
  have HD := Lib.hid h
  have HDO := Lib.hid hd
  have HF := Lib.hid hF
  have HZ := Lib.hid hz
  clear h hd hF hz hrr hL'
  by_cases h0 : rr = 0
  · subst h0
    rw [if_pos rfl] at HL' ⊢
    go_enter Try.func62, Try.ntmps62
    go_wp2_with (first
      | (go_at_call 84
         refine HM.out.mono ?_
         rintro e w2 ⟨rfl, hb2⟩
         have HD2 := Lib.hid (HD.out.keep hb2)
         have HDO2 := Lib.hid (HDO.out.keep hb2)
         have HW2 := Lib.hid hb2
         clear hb2)
      | fail)
    go_loopw [10, 11] (fun c10 _ wr => ∃ (r : Nat) (rs1 : List Value), r ≤ n ∧ c10 = .int .i64 (r : Int) ∧ ((r : Int) ≤ room + 1 ∨ r = 0) ∧ RDk F w wr d g n rs1 (upR n L (fun r => partL room q torn (r : Int) (sel (r : Int) fl)) r) br ∧ Fr (r2 d g) W wr ∧ Docs w wr A m c fl) (fun c10 _ _ => n - (intOf c10).toNat)
    case atStart => exact ⟨0, rs, by omega, rfl, .inr rfl, by rw [upR_zero HD.out.n2]; exact HD2.out, Fr.of_below HW2.out _, HDO2.out⟩
    case round =>
      obtain ⟨r, rs1, hr, rfl, hrm, hD, hFr, hDo⟩ := hrel
      have HDD := Lib.hid hD
      have HFR := Lib.hid hFr
      have HDC := Lib.hid hDo
      have hcd : wr.cell? ⟨d, 0, none⟩ = some (.slice (some ⟨g, 0, none⟩) n n) := hD.blk.cell 0
      clear hD hFr hDo
      by_cases hrn : r < n
      · have hd : decide ((r : Int) < (n : Int)) = true := decide_eq_true (by omega)
        by_cases hle : (r : Int) ≤ room
        · have hd2 : decide ((r : Int) ≤ room) = true := decide_eq_true hle
          have hup := upR_succ (L := L) (f := fun r => partL room q torn (r : Int) (sel (r : Int) fl)) r hrn
          have hug := upR_get (L := L) (f := fun r => partL room q torn (r : Int) (sel (r : Int) fl)) r r hrn
          rw [if_neg (by omega)] at hug
          by_cases heq : (r : Int) = room
          · have HP := Lib.hid (rput_any HDD.out (fun k hk => Nat.lt_of_lt_of_le (HF.out k hk) HFR.out.size) hn HDC.out r hrn q (by rw [hug]; have := HZ.out r; have := recs_count (L.getD r []); omega))
            have hpl : partL room q torn (r : Int) (sel (r : Int) fl) = (sel (r : Int) fl).take q.toNat := by
              unfold partL
              rw [if_neg (by omega), if_pos heq]
              congr 1; omega
            rw [← hpl, ← hup] at HP
            clear hup hug hpl
            subst heq
            go_wp2_with (first
              | (go_at_call 85
                 refine HP.out.mono ?_
                 rintro e w3 ⟨rfl, rs2, hD3, hF3⟩)
              | fail)
            go_roundw
            case rel => exact ⟨r + 1, rs2, by omega, by go_num, .inl (by omega), hD3, HFR.out.trans hF3, HDC.out.step HDD.out hF3⟩
            case measure => simp [intOf]; omega
          · have HP := Lib.hid (rput_any HDD.out (fun k hk => Nat.lt_of_lt_of_le (HF.out k hk) HFR.out.size) hn HDC.out r hrn (m : Int) (by rw [hug]; have := HZ.out r; have := recs_count (L.getD r []); omega))
            have hne : ((r : Int) == room) = false := by rw [beq_eq_false_iff_ne]; exact heq
            have hpl : partL room q torn (r : Int) (sel (r : Int) fl) = sel (r : Int) fl := by
              unfold partL
              rw [if_pos (by omega)]
            rw [sel_take_all _ _ _ HDC.out.len] at HP
            rw [← hpl, ← hup] at HP
            clear hup hug hpl heq
            go_wp2_with (first
              | (go_at_call 85
                 refine HP.out.mono ?_
                 rintro e w3 ⟨rfl, rs2, hD3, hF3⟩)
              | fail)
            go_roundw
            case rel => exact ⟨r + 1, rs2, by omega, by go_num, .inl (by omega), hD3, HFR.out.trans hF3, HDC.out.step HDD.out hF3⟩
            case measure => simp [intOf]; omega
        · have hd2 : decide ((r : Int) ≤ room) = false := decide_eq_false hle
          have hal := upR_all (n := n) (L := L) (f := fun r => partL room q torn (r : Int) (sel (r : Int) fl)) r (fun k hk hk2 => by
            show partL room q torn (k : Int) _ = []
            unfold partL
            rw [if_neg (by omega), if_neg (by omega)])
          rw [hal, ← HL'.out] at HDD
          clear hal
          have hcb : wr.cell? ⟨d, 1, none⟩ = some (.bool br) := HDD.out.blk.cell 1
          have hfz := HDD.out.blk.frozen 1
          go_wp2_with fail
          go_ret
          exact ⟨rfl, rs1, HDD.out.break_ true, HFR.out.setCell' (.inl (.inl rfl)) _⟩
      · obtain rfl : r = n := by omega
        have hd : decide ((r : Int) < (r : Int)) = false := decide_eq_false (by omega)
        rw [upR_all r (fun k hk hk2 => by omega), ← HL'.out] at HDD
        have hcb : wr.cell? ⟨d, 1, none⟩ = some (.bool br) := HDD.out.blk.cell 1
        have hfz := HDD.out.blk.frozen 1
        go_wp2_with fail
        go_ret
        exact ⟨rfl, rs1, HDD.out.break_ true, HFR.out.setCell' (.inl (.inl rfl)) _⟩
  · rw [if_neg h0] at HL' ⊢
    have hne : ((rr : Int) == 0) = false := by rw [beq_eq_false_iff_ne]; exact h0
    have hne2 : (rr != 0) = true := by simpa using h0
    go_enter Try.func62, Try.ntmps62
    go_wp2_with (first
      | (go_at_call 84
         refine HM.out.mono ?_
         rintro e w2 ⟨rfl, hb2⟩
         have HW2 := Lib.hid hb2
         clear hb2)
      | fail)
    go_ret
    exact ⟨rfl, by rw [HL'.out]; exact RTo.same HD.out HW2.out⟩
end Go.Proofs.Ytnlkjhhocehhaaa
namespace Go.Proofs.Ytnlkjhhocehhaaa
set_option linter.unusedVariables false
open Go Go.RowKit Go.Proofs Sha Go.BigFrame
/-- As wp_region_grow, the bound said. -/
theorem wp_region_growB {P : Program} {id : Nat} {Q : Exit → Act → World → Prop} {a : Act} {w : World} {l : List Oper} (B T : Nat) (segs : List (List Nat × Nat)) (fin : List Nat)
    (hm : P.follows .mixedOrders = true) (hB : growB .any l.toArray T segs fin = true)
    (h : wpSegs P l.toArray T (NoPan Q) B segs fin a w.drew) : (Code.region id l.toArray true).wp P Q a w := by
  refine Code.wp_mono (Q := NoPan Q) NoPan.to ?_
  simp only [growB, Bool.and_eq_true, decide_eq_true_eq, Bool.or_eq_true] at hB
  obtain ⟨⟨⟨⟨⟨hsel, hT⟩, hst⟩, hft⟩, hlen⟩, hseg⟩ := hB
  have hst' : ∀ s ∈ segs, ∀ r ∈ s.1, r ≠ T := fun s hs r hr => by
    have h1 := List.all_eq_true.1 hst s hs
    have h2 := List.all_eq_true.1 h1 r hr
    simpa using h2
  have hft' : ∀ r ∈ fin, r ≠ T := fun r hr => by
    have h2 := List.all_eq_true.1 hft r hr
    simpa using h2
  refine wp_region_any hm (wpAny_of_B (T := T) _ B _ _ _ ?_)
  have := wpAnyB_of_segs (P := P) (Q' := NoPan Q) (md := .any) (T := T) hsel (fun _ _ _ _ _ h => h) (fun i listed hi hsz hcl hun hne => by
    rcases hT with hT | hT
    · intro hr
      obtain ⟨_, o, ho, _⟩ := mem_ready.1 hr
      have := (Array.getElem?_eq_some_iff.1 ho).1
      omega
    · exact sink_key hT (fun j hj => by simp at hj; simpa using hj.1) hsz hcl (by simp; exact ⟨by simpa using hi, hne⟩) hun)
    segs fin B (Array.replicate l.toArray.size false) a w.drew hst' hft' (by simp) (fun j oj _ hl => (by rw [getD_replicate_false] at hl; cases hl)) hseg h
  rw [hlen] at this
  exact this
/-- A row of new blocks takes the place of another. -/
theorem RDk.row_new {F : Nat → Prop} {w W W' : World} {d g n : Nat} {rs : List Value} {L : List (List (List UInt8))} {br : Bool} (h : RDk F w W d g n rs L br) (hf : Fr (r2 d g) W W') (k : Nat) (hk : k < n) (v : Value) (x : List (List UInt8))
    (hb : Blk W' d 87 #[.slice (some ⟨g, 0, none⟩) n n, .bool br]) (hg : Blk W' g 48 (rs.set k v).toArray) (hx : LsF (rF F d g) W' v x) : RDk F w W' d g n (rs.set k v) (L.set k x) br := by
  have hl1 := h.n1
  have hl2 := h.n2
  refine ⟨hb, hg, by rw [List.length_set]; exact hl1, by rw [List.length_set]; exact hl2, h.nd, h.ng, fun i hi => ?_, h.dnew, h.bel.trans (hf.below h.bel.size (fun q hq => h.foot q hq))⟩
  by_cases e : i = k
  · subst e
    rw [show (rs.set i v).getD i undef = v by simp [show i < rs.length by omega], show (L.set i x).getD i [] = x by simp [show i < L.length by omega]]
    exact hx
  · rw [show (rs.set k v).getD i undef = rs.getD i undef by simp only [List.getD_eq_getElem?_getD]; rw [List.getElem?_set_ne (fun h => e h.symm)], show (L.set k x).getD i [] = L.getD i [] by simp only [List.getD_eq_getElem?_getD]; rw [List.getElem?_set_ne (fun h => e h.symm)]]
    exact (h.rows i hi).fr (hf.mono (fun q _ hq => .inr hq))
theorem comD_far {n : Nat} {k : Nat} (hk : k < n) (want : List (List UInt8)) : comD false n (k : Int) want = if want.any longB then 4 else if 60000 < (recs want).length then 7 else 0 := by
  unfold comD; rw [if_neg (by simp), if_neg (by omega)]
set_option maxRecDepth 100000 in
set_option maxHeartbeats 8000000 in
theorem rcompact_any {F : Nat → Prop} {w W : World} {d g n : Nat} {rs : List Value} {L : List (List (List UInt8))} {br : Bool} (h : RDk F w W d g n rs L br) (hF : ∀ k, F k → k < W.heap.size) (hn : n ≤ 100) {A : Option Addr} {m c : Nat} {want : List (List UInt8)} (hw : LsF (r2 d g) W (.slice A m c) want) (hm : want.length ≤ 20) (hx : ∀ x ∈ want, x.length ≤ 10000) (room : Int) :
    Calls Try.prog 64 #[dP d, .int .i64 room, .slice A m c] W fun e W' => e = .returned (.int .i64 (comD br n room want)) ∧ RTo F w d g n W (comR n L br room want) br W' := by
  obtain ⟨i0, hi0, hz0, hz1, hz2⟩ := info_parts info5
  obtain ⟨i2, hi2, hy0, hy1, hy2⟩ := info_parts info22'
  have hml : m = want.length := by
    obtain ⟨A', c', hv', -, -⟩ := hw.ls.shape
    injection hv' with e1 e2 e3
  have hcb : W.cell? ⟨d, 1, none⟩ = some (.bool br) := h.blk.cell 1
  have hcd : W.cell? ⟨d, 0, none⟩ = some (.slice (some ⟨g, 0, none⟩) n n) := h.blk.cell 0
  have HD := Lib.hid h
  have HF := Lib.hid hF
  have HW := Lib.hid hw
  have HX := Lib.hid hx
  have HML := Lib.hid hml
  have hm20 : m ≤ 20 := by omega
  clear h hF hw hx hml
  cases br with
  | true =>
    have hcom : comD true n room want = 13 := by unfold comD; rw [if_pos rfl]
    have HCR : Hid (comR n L true room want = L) := Lib.hid (by unfold comR; rw [hcom, if_neg (by decide)])
    rw [hcom]
    clear hcom
    go_enter Try.func64, Try.ntmps64
    go_wp2_with fail
    go_ret
    exact ⟨rfl, by rw [HCR.out]; exact RTo.same HD.out (Below.refl _ _)⟩
  | false =>
    by_cases hr0 : room < 0
    · have hcom : comD false n room want = 5 := by unfold comD; rw [if_neg (by simp), if_pos (.inl hr0)]
      have HCR : Hid (comR n L false room want = L) := Lib.hid (by unfold comR; rw [hcom, if_neg (by decide)])
      rw [hcom]
      have hd1 : decide (room < 0) = true := decide_eq_true hr0
      clear hcom
      go_enter Try.func64, Try.ntmps64
      go_wp2_with fail
      go_ret
      exact ⟨rfl, by rw [HCR.out]; exact RTo.same HD.out (Below.refl _ _)⟩
    · have hd1 : decide (room < 0) = false := decide_eq_false hr0
      by_cases hrn : (n : Int) ≤ room
      · have hcom : comD false n room want = 5 := by unfold comD; rw [if_neg (by simp), if_pos (.inr hrn)]
        have HCR : Hid (comR n L false room want = L) := Lib.hid (by unfold comR; rw [hcom, if_neg (by decide)])
        rw [hcom]
        have hd2 : decide ((n : Int) ≤ room) = true := decide_eq_true hrn
        clear hcom
        go_enter Try.func64, Try.ntmps64
        go_wp2_with fail
        go_ret
        exact ⟨rfl, by rw [HCR.out]; exact RTo.same HD.out (Below.refl _ _)⟩
      · obtain ⟨k, rfl⟩ : ∃ k : Nat, room = (k : Int) := ⟨room.toNat, by omega⟩
        have hkn : k < n := by omega
        have hd2 : decide ((n : Int) ≤ (k : Int)) = false := decide_eq_false hrn
        have hd3 : decide (n ≤ k) = false := decide_eq_false (by omega)
        have hcom := comD_far hkn want
        obtain ⟨cd, hcd0⟩ : ∃ cd : Int, cd = comD false n (k : Int) want := ⟨_, rfl⟩
        have HCR : Hid (comR n L false (k : Int) want = if cd = 0 then L.set k want else L) := Lib.hid (by unfold comR; rw [hcd0, Int.toNat_natCast])
        rw [← hcd0] at hcom ⊢
        have HCD := Lib.hid hcom
        clear hcom hcd0 hr0 hrn
        go_enter Try.func64, Try.ntmps64
        go_wp2_with fail
        go_loopw [7, 8] (fun c7 c8 wr => ∃ i : Nat, i ≤ m ∧ c8 = .int .i64 (i : Int) ∧ c7 = .int .i64 ((recs (want.take i)).length : Int) ∧ (∀ x ∈ want.take i, x.length ≤ 4000) ∧ wr = W) (fun _ c8 _ => m - (intOf c8).toNat)
        case atStart => exact ⟨0, by omega, rfl, rfl, (fun x hx => by cases hx), rfl⟩
        case round =>
          obtain ⟨i, him, rfl, rfl, h4, rfl⟩ := hrel
          have H4 := Lib.hid h4
          have hrl := recs_le _ h4
          rw [List.length_take] at hrl
          have hrl2 : (recs (want.take i)).length ≤ 80120 := by omega
          obtain ⟨rl, hrle⟩ : ∃ rl, rl = (recs (want.take i)).length := ⟨_, rfl⟩
          rw [← hrle] at hrl2 ⊢
          have HRLE := Lib.hid hrle
          clear h4 hrl hrle
          by_cases hlt : i < m
          · have hd : decide ((i : Int) < (m : Int)) = true := decide_eq_true (by omega)
            have hil : i < want.length := by rw [← HML.out]; exact hlt
            obtain ⟨x, hx⟩ : ∃ x, x = want.getD i [] := ⟨_, rfl⟩
            have hxm : x ∈ want := by rw [hx, show want.getD i [] = want[i] by simp [hil]]; exact List.getElem_mem hil
            have hx10 := HX.out x hxm
            have htk : want.take (i + 1) = want.take i ++ [x] := by rw [List.take_succ_eq_append_getElem hil, hx]; simp [hil]
            obtain ⟨g1, o1, c1, A1, d1, e1, hg1, hc1, hb1, hn1, hn2, hn3⟩ := HW.out.ls.at_ i hil
            injection e1 with e1 e2 e3
            clear e2
            subst e1 e3
            rw [← hx] at hc1
            obtain ⟨t, ht⟩ : ∃ t, t = x.length := ⟨_, rfl⟩
            rw [← ht] at hc1 hx10
            have HTK := Lib.hid htk
            have HXM := Lib.hid hxm
            have HT := Lib.hid ht
            have h0i : (0 : Int) ≤ (i : Int) := by omega
            have him2 : (i : Int) < (m : Int) := by omega
            clear hb1 hn1 hn2 hn3 hx htk hxm ht hil
            by_cases h40 : 4000 < t
            · have hd4 : decide ((4000 : Int) < (t : Int)) = true := decide_eq_true (by omega)
              have hd44 : decide (4000 < t) = true := decide_eq_true h40
              have HCD4 : Hid (cd = 4) := Lib.hid (by
                rw [HCD.out, if_pos]
                exact List.any_eq_true.2 ⟨x, HXM.out, by unfold longB; exact decide_eq_true (by rw [← HT.out]; exact h40)⟩)
              go_wp2_with fail
              go_ret
              exact ⟨by rw [HCD4.out]; rfl, by rw [HCR.out, HCD4.out, if_neg (by decide)]; exact RTo.same HD.out (Below.refl _ _)⟩
            · have hd4 : decide ((4000 : Int) < (t : Int)) = false := decide_eq_false (by omega)
              have hd44 : decide (4000 < t) = false := decide_eq_false h40
              go_wp2_with fail
              go_roundw
              case rel =>
                refine ⟨i + 1, by omega, by go_num, ?_, ?_, trivial⟩
                · rw [HTK.out, recs_snoc, List.length_append, length_recB, ← HRLE.out, ← HT.out]; go_num
                · rw [HTK.out]
                  intro z hz
                  rcases List.mem_append.1 hz with hz | hz
                  · exact H4.out z hz
                  · obtain rfl : z = x := by simpa using hz
                    have := HT.out; omega
              case measure => simp [intOf]; omega
          · obtain rfl : i = m := by omega
            have hd : decide ((i : Int) < (i : Int)) = false := decide_eq_false (by omega)
            have htk : want.take i = want := List.take_of_length_le (by rw [← HML.out]; exact Nat.le_refl _)
            rw [htk] at HRLE H4
            have hcd2 : cd = if 60000 < rl then 7 else 0 := by
              rw [HCD.out, if_neg, HRLE.out]
              intro hh
              obtain ⟨z, hz, hz2⟩ := List.any_eq_true.1 hh
              unfold longB at hz2
              have := H4.out z hz
              have := of_decide_eq_true hz2
              omega
            have HCD2 := Lib.hid hcd2
            clear htk hcd2
            by_cases h6 : 60000 < rl
            · have hd6 : decide ((60000 : Int) < (rl : Int)) = true := decide_eq_true (by omega)
              have hd66 : decide (60000 < rl) = true := decide_eq_true h6
              go_wp2_with fail
              go_ret
              exact ⟨by rw [HCD2.out, if_pos h6]; rfl, by rw [HCR.out, HCD2.out, if_pos h6, if_neg (by decide)]; exact RTo.same HD.out (Below.refl _ _)⟩
            · have hd6 : decide ((60000 : Int) < (rl : Int)) = false := decide_eq_false (by omega)
              have hd66 : decide (60000 < rl) = false := decide_eq_false h6
              have HCR2 : Hid (comR n L false (k : Int) want = L.set k want) := Lib.hid (by rw [HCR.out, HCD2.out, if_neg h6, if_pos rfl])
              have HC0 : Hid (cd = 0) := Lib.hid (by rw [HCD2.out, if_neg h6])
              have hck := HD.out.cell k hkn
              have hfz := HD.out.arr.frozen k
              have hk0 : (0 : Int) ≤ (k : Int) := by omega
              have hkn2 : (k : Int) < (n : Int) := by omega
              have HLW : Hid (d < wr.heap.size ∧ g < wr.heap.size) := Lib.hid ⟨HD.out.blk.lt, HD.out.arr.lt⟩
              have HDG := Lib.hid HD.out.dg
              have hS : Fr (one g) wr (wr.setCell ⟨g, k, none⟩ (.slice none 0 0)) := (Fr.refl (one g) wr).setCell' (.inl rfl) _
              have HB0 : Hid (Blk (wr.setCell ⟨g, k, none⟩ (.slice none 0 0)) d 87 #[.slice (some ⟨g, 0, none⟩) n n, .bool false]) := Lib.hid (HD.out.blk.fr hS (fun e => by unfold one at e; exact HDG.out e))
              have HG0 : Hid (Blk (wr.setCell ⟨g, k, none⟩ (.slice none 0 0)) g 48 (rs.set k (.slice none 0 0)).toArray) := Lib.hid (by have := HD.out.arr.set_ k (.slice none 0 0); simpa using this)
              have HS0 : Hid (Fr (r2 d g) wr (wr.setCell ⟨g, k, none⟩ (.slice none 0 0))) := Lib.hid (hS.mono (fun q _ hq => .inr hq))
              have hls20 : want.length ≤ 20 := hm
              clear hcb hS
              go_wp2_with fail
              obtain ⟨wo, rfl⟩ : ∃ wo : World, wo = wr := ⟨_, rfl⟩
              clear hcd hck hfz
              go_loopw [9] (fun c9 wx => ∃ (j : Nat) (v : Value), j ≤ i ∧ c9 = .int .i64 (j : Int) ∧ Blk wx d 87 #[.slice (some ⟨g, 0, none⟩) n n, .bool false] ∧ Blk wx g 48 (rs.set k v).toArray ∧ LsP (newer wo) wx v (want.take j) ∧ Fr (r2 d g) wo wx) (fun c9 _ => i - (intOf c9).toNat)
              case atStart => exact ⟨0, .slice none 0 0, by omega, rfl, HB0.out, HG0.out, LsP.nil, HS0.out⟩
              case round =>
                obtain ⟨j, v, hj, rfl, hb, hgb, hls, hFr⟩ := hrel
                have HBD := Lib.hid hb
                have HGB := Lib.hid hgb
                have HLS := Lib.hid hls
                have HFR := Lib.hid hFr
                clear hb hgb hls hFr
                by_cases hji : j < i
                · have hd7 : decide ((j : Int) < (i : Int)) = true := decide_eq_true (by omega)
                  have hil : j < want.length := by rw [← HML.out]; exact hji
                  obtain ⟨x, hx⟩ : ∃ x, x = want.getD j [] := ⟨_, rfl⟩
                  have hxm : x ∈ want := by rw [hx, show want.getD j [] = want[j] by simp [hil]]; exact List.getElem_mem hil
                  have hx10 := HX.out x hxm
                  have htk : want.take (j + 1) = want.take j ++ [x] := by rw [List.take_succ_eq_append_getElem hil, hx]; simp [hil]
                  have hwd : LsF (r2 d g) wr (.slice A i c) want := HW.out.fr HFR.out
                  have hlw : ∀ q o s, A = some ⟨q, o, s⟩ → q < wo.heap.size := fun q o s e => by
                    obtain ⟨us, -, u2, -, -⟩ := HW.out
                    exact Own.lt u2 (by rw [e]; rfl)
                  obtain ⟨g1, o1, c1, A1, d1, e1, hg1, hc1, hb1, hn1, hn2, hn3⟩ := hwd.ls.at_ j hil
                  injection e1 with e1 e2 e3
                  clear e2
                  have hg1W := hlw _ _ _ e1
                  subst e1 e3
                  rw [← hx] at hc1 hb1
                  obtain ⟨t, ht⟩ : ∃ t, t = x.length := ⟨_, rfl⟩
                  rw [← ht] at hc1 hx10
                  have HTK := Lib.hid htk
                  have HT := Lib.hid ht
                  obtain ⟨us, hu1, hu2, hu3, hu4⟩ := HLS.out
                  obtain ⟨Av, cv, hv, -, -⟩ := hu2.shape
                  obtain ⟨nv, hnv⟩ : ∃ nv, nv = (want.take j).length := ⟨_, rfl⟩
                  have hnv20 : nv ≤ 20 := by rw [hnv, List.length_take]; omega
                  rw [← hnv] at hv hu1 hu2
                  subst hv
                  have hcd : wr.cell? ⟨d, 0, none⟩ = some (.slice (some ⟨g, 0, none⟩) n n) := HBD.out.cell 0
                  have hck : wr.cell? ⟨g, k, none⟩ = some (.slice Av nv cv) := by rw [HGB.out.cell]; simp [show k < rs.length by rw [HD.out.n1]; exact hkn]
                  have hS1 : Src wr.drew 1 A1 t (byteVals x) := by
                    have h9 : Bytes wr.drew A1 x := hb1.keep (Below.refl wr.heap.size wr).drew
                    unfold Bytes at h9
                    rwa [← ht] at h9
                  have HS1 := Lib.hid hS1
                  have HU1 := Lib.hid hu1
                  have HU2 : Hid (Own wr.drew 22 1 (.slice Av nv cv) nv us) := Lib.hid (Own.fr hu2 (Fr.refl nob wr).drew (fun _ h => h.elim))
                  have HU3 := Lib.hid hu3
                  have HU4 : Hid (∀ q, q < (want.take j).length → SlP (newer wo) wr.drew (us.getD q undef) ((want.take j).getD q [])) := Lib.hid (fun q hq => (hu4 q hq).keep (Below.refl wr.heap.size wr).drew)
                  have HNV := Lib.hid hnv
                  have h0j : (0 : Int) ≤ (j : Int) := by omega
                  have hji2 : (j : Int) < (i : Int) := by omega
                  have hldW := HLW.out.1
                  have hlgW := HLW.out.2
                  have hszr := HFR.out.size
                  have HBA0 : Hid (Blk wr.drew d 87 #[.slice (some ⟨g, 0, none⟩) n n, .bool false]) := Lib.hid HBD.out.drew
                  have HGA0 : Hid (Blk wr.drew g 48 (rs.set k (.slice Av nv cv)).toArray) := Lib.hid HGB.out.drew
                  have HFA0 : Hid (Fr (r2 d g) wo wr.drew) := Lib.hid HFR.out.drew
                  have hcdA : wr.drew.cell? ⟨d, 0, none⟩ = some (.slice (some ⟨g, 0, none⟩) n n) := hcd
                  have hckA : wr.drew.cell? ⟨g, k, none⟩ = some (.slice Av nv cv) := hck
                  have hc1A : wr.drew.cell? ⟨g1, o1 + j, none⟩ = some (.slice A1 t d1) := hc1
                  clear hb1 hn1 hn2 hn3 hx htk hxm ht hil hwd hlw hu1 hu2 hu3 hu4 hnv hS1 HLS HBD HGB HFR
                  go_wp2_with fail
                  refine wp_region_growB wo.heap.size 20 [([0, 1, 2, 3, 4, 5, 6, 7, 8, 9, 10, 11, 12, 13, 14, 15], 16), ([], 17), ([], 18), ([19], 20)] [] (by kernel_rfl) (by kernel_rfl) ?_
                  obtain ⟨Bd, hBd⟩ : ∃ Bd, Bd = wo.heap.size := ⟨_, rfl⟩
                  have hAB : Bd ≤ wr.drew.heap.size := by rw [hBd]; exact hszr
                  obtain ⟨wA, hwA⟩ : ∃ wA, wA = wr.drew := ⟨_, rfl⟩
                  rw [← hwA] at HS1 HU2 HU4 HBA0 HGA0 HFA0 hcdA hckA hc1A hAB ⊢
                  have HNW : Hid (∀ q, newer wo q ↔ Bd ≤ q) := Lib.hid (fun q => by unfold newer; rw [hBd])
                  rw [← hBd] at hg1W hldW hlgW ⊢
                  have hg1A : g1 < wA.heap.size := by omega
                  have hldA : d < wA.heap.size := by omega
                  have hlgA : g < wA.heap.size := by omega
                  have HBE := Lib.hid hBd
                  have hdB : ¬ geB Bd d := by unfold geB; omega
                  have hgB : ¬ geB Bd g := by unfold geB; omega
                  clear hwA hBd hszr hcd hck hc1
                  try simp only [Act.put, List.setIfInBounds_toArray, List.set_cons_zero, List.set_cons_succ]
                  refine wpSegs_cons rfl (List.getElem?_toArray ..) ?_
                  simp only [pick, List.filterMap_cons, List.filterMap_nil, List.getElem?_toArray, List.getElem?_cons_succ, List.getElem?_cons_zero]
                  show wpQuiet _ _ _ _ [_, _, _, _, _, _, _, _, _, _, _, _, _, _, _, _] _
                  repeat (go_big_quiet_step (fail))
                  refine wpQuiet_nil ?_
                  rw [if_pos (by rfl)]
                  intro K hK
                  refine wp_append_o _ (.const (.slice none 0 0)) (.tmp 74) 22 rfl 5 i0 (.int .u8 0) 1 1 Try.underlying22 hi0 hz0 hz1 hz2 rfl (by omega) (.slice none 0 0) 0 [] rfl (Own.nil _ _ _) A1 t d1 (byteVals x) rfl HS1.out (byteVals_one _) (by simp only [maxLen]; omega) (by omega) ?_
                  intro vb wC hownb hf2 hr2
                  rw [Nat.zero_add, List.nil_append] at hownb
                  have hF2 : Fr nob wA wC := hf2.mono (fun k _ hk => by cases hk)
                  have hr2A : ∀ k, rowOf vb k → Bd ≤ k := fun k hk => (hr2 k hk).elim (fun h => by cases h) (fun h => by omega)
                  refine hK Bd _ _ (Nat.le_refl _) (fun _ => hF2.mono (fun _ _ h => h.elim)) ?_
                  clear hK K hf2 hr2
                  obtain ⟨Ab, cb, hvb, -, -⟩ := hownb.shape
                  have HOB := Lib.hid hownb
                  have HRB := Lib.hid hr2A
                  have hsC : Bd ≤ wC.heap.size := by have := hF2.size; omega
                  have HFC := Lib.hid hF2
                  subst hvb
                  clear hownb hr2A hF2 HS1 hcdA hckA hc1A hg1A hldA hlgA
                  try simp only [Act.put, List.setIfInBounds_toArray, List.set_cons_zero, List.set_cons_succ]
                  refine wpSegs_cons rfl (List.getElem?_toArray ..) ?_
                  simp only [pick, List.filterMap_cons, List.filterMap_nil, List.getElem?_toArray, List.getElem?_cons_succ, List.getElem?_cons_zero]
                  refine wpQuiet_nil ?_
                  rw [if_pos (by rfl)]
                  intro K hK
                  go_simp
                  have hSC : Src (wC.alloc (.cells #[.slice Ab t cb] 22)) 1 (some ⟨wC.heap.size, 0, none⟩) 1 [.slice Ab t cb] := Src.of_new wC 22 #[.slice Ab t cb] 1 rfl
                  have hFD : Fr nob wC (wC.alloc (.cells #[.slice Ab t cb] 22)) := (Fr.refl nob wC).alloc _
                  refine hK Bd _ _ (Nat.le_refl _) (fun _ => hFD.mono (fun _ _ h => h.elim)) ?_
                  clear hK K
                  obtain ⟨gn, hgn⟩ : ∃ gn, gn = wC.heap.size := ⟨_, rfl⟩
                  obtain ⟨wD, hwD⟩ : ∃ wD, wD = wC.alloc (.cells #[.slice Ab t cb] 22) := ⟨_, rfl⟩
                  rw [← hwD] at hSC hFD ⊢
                  rw [← hgn] at hSC ⊢
                  have HSC := Lib.hid hSC
                  have HFD : Hid (Fr nob wA wD) := Lib.hid (HFC.out.trans hFD)
                  have HOBD := Lib.hid (Own.fr HOB.out hFD (fun _ h => h.elim))
                  have HU2D := Lib.hid (Own.fr HU2.out HFD.out (fun _ h => h.elim))
                  have hsD : Bd ≤ wD.heap.size := by have := hFD.size; omega
                  clear hSC hFD hwD hgn HOB HFC HU2
                  try simp only [Act.put, List.setIfInBounds_toArray, List.set_cons_zero, List.set_cons_succ]
                  refine wpSegs_cons rfl (List.getElem?_toArray ..) ?_
                  simp only [pick, List.filterMap_cons, List.filterMap_nil, List.getElem?_toArray, List.getElem?_cons_succ, List.getElem?_cons_zero]
                  refine wpQuiet_nil ?_
                  rw [if_pos (by rfl)]
                  intro K hK
                  refine wp_append_o _ (.tmp 70) (.tmp 76) 48 rfl 22 i2 (.slice none 0 0) 1 24 Try.underlying48 hi2 hy0 hy1 hy2 rfl (by omega) (.slice Av nv cv) nv us rfl HU2D.out (some ⟨gn, 0, none⟩) 1 1 [.slice Ab t cb] rfl HSC.out (by simp [Value.oneCell']) (by simp only [maxLen]; omega) (by omega) ?_
                  intro v3 wE hown3 hf3 hr3
                  have hF3 : Fr (geB Bd) wD wE := hf3.mono (fun k _ hk => (HNW.out k).1 (HU3.out k hk))
                  refine hK Bd _ _ (Nat.le_refl _) (fun _ => hF3) ?_
                  clear hK K
                  have hFAE : Fr (geB Bd) wA wE := (HFD.out.mono (fun _ _ h => h.elim)).trans hF3
                  have hOBE := Own.fr HOBD.out hf3 (own_disj HU2D.out HOBD.out (by decide))
                  have hr3A : ∀ k, rowOf v3 k → Bd ≤ k := fun k hk => (hr3 k hk).elim (fun h => (HNW.out k).1 (HU3.out k h)) (fun h => by omega)
                  have hU4E : ∀ q, q < (want.take j).length → SlP (newer wo) wE (us.getD q undef) ((want.take j).getD q []) := fun q hq => by
                    have h9 := HU4.out q hq
                    have h8 := h9.fr HFD.out (fun _ h => h.elim)
                    exact ⟨Own.fr h8.1 hf3 (own_disj HU2D.out h8.1 (by decide)), h8.2⟩
                  obtain ⟨A3, c3, hv3, -, -⟩ := hown3.shape
                  have hLSE : LsP (newer wo) wE v3 (want.take j ++ [x]) := LsP.snoc (by rw [← HNV.out]; exact HU1.out) (by rw [← HNV.out]; exact hown3) (fun q hq => (HNW.out q).2 (hr3A q hq)) hU4E (⟨by rw [← HT.out]; exact hOBE, fun q hq => (HNW.out q).2 (HRB.out q hq)⟩ : SlP (newer wo) wE (.slice Ab t cb) x)
                  have hbE := HBA0.out.fr hFAE hdB
                  have hgE := HGA0.out.fr hFAE hgB
                  have hcdE : wE.cell? ⟨d, 0, none⟩ = some (.slice (some ⟨g, 0, none⟩) n n) := hbE.cell 0
                  have hckE : wE.cell? ⟨g, k, none⟩ = some (.slice Av nv cv) := by rw [hgE.cell]; simp [show k < rs.length by rw [HD.out.n1]; exact hkn]
                  have hfzE := hgE.frozen k
                  have hldE : d < wE.heap.size := hbE.lt
                  have hlgE : g < wE.heap.size := hgE.lt
                  obtain ⟨n3, hn3⟩ : ∃ n3, n3 = nv + 1 := ⟨_, rfl⟩
                  rw [← hn3] at hv3
                  subst hv3
                  have HLSE := Lib.hid hLSE
                  have HBEE := Lib.hid hbE
                  have HGEE := Lib.hid hgE
                  have HFAE := Lib.hid hFAE
                  clear hown3 hf3 hr3 hF3 hFAE hOBE hr3A hU4E hLSE hbE hgE hn3 HU2D HOBD HSC HFD
                  try simp only [Act.put, List.setIfInBounds_toArray, List.set_cons_zero, List.set_cons_succ]
                  refine wpSegs_cons rfl (List.getElem?_toArray ..) ?_
                  simp only [pick, List.filterMap_cons, List.filterMap_nil, List.getElem?_toArray, List.getElem?_cons_succ, List.getElem?_cons_zero]
                  show wpQuiet _ _ _ _ [_] _
                  repeat (go_big_quiet_step (fail))
                  refine wpQuiet_nil ?_
                  rw [if_pos (by rfl)]
                  intro K hK
                  go_simp
                  refine hK Bd _ _ (Nat.le_refl _) (fun h => absurd rfl h) ?_
                  clear hK K
                  refine wpSegs_nil rfl ?_
                  refine wpQuiet_nil ?_
                  refine NoPan.normal ?_
                  try simp only [Act.put, List.setIfInBounds_toArray, List.set_cons_zero, List.set_cons_succ]
                  go_wp2_with fail
                  go_roundw
                  case rel =>
                    have hS : Fr (one g) wE (wE.setCell ⟨g, k, none⟩ (.slice A3 n3 c3)) := (Fr.refl (one g) wE).setCell' (.inl rfl) _
                    refine ⟨j + 1, .slice A3 n3 c3, by omega, by go_num, HBEE.out.fr hS (fun e => by unfold one at e; exact HDG.out e), ?_, ?_, ?_⟩
                    · have := HGEE.out.set_ k (.slice A3 n3 c3)
                      simpa using this
                    · rw [HTK.out]
                      exact HLSE.out.fr hS (fun q hq hq2 => by unfold one at hq; subst hq; have := (HNW.out q).1 hq2; omega)
                    · exact (HFA0.out.then HFAE.out (fun q hq => .inr (by unfold geB at hq; rw [← HBE.out]; exact hq))).setCell' (.inl (.inr rfl)) _
                  case measure => simp [intOf]; omega
                · obtain rfl : j = i := by omega
                  have hd7 : decide ((j : Int) < (j : Int)) = false := decide_eq_false (by omega)
                  have htk : want.take j = want := List.take_of_length_le (by rw [← HML.out]; exact Nat.le_refl _)
                  rw [htk] at HLS
                  clear htk
                  go_wp2_with fail
                  go_ret
                  refine ⟨by rw [HC0.out]; rfl, ?_⟩
                  rw [HCR2.out]
                  refine ⟨rs.set k v, HD.out.row_new HFR.out k hkn v want HBD.out HGB.out (HLS.out.far (fun q hq hr => ?_)), HFR.out⟩
                  unfold newer at hq
                  rcases hr with hr | rfl | rfl
                  · have := HF.out q hr; omega
                  · have := HLW.out.1; omega
                  · have := HLW.out.2; omega
end Go.Proofs.Ytnlkjhhocehhaaa
