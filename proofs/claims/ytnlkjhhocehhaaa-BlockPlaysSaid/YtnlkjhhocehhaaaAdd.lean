/- The contracts of digest.New and (digest.Sum).Add. -/
import Derived.Test.YtnlkjhhocehhaaaRound
import Derived.StillTailTactics
import Derived.BigRegion
namespace Go.Proofs.Ytnlkjhhocehhaaa
set_option linter.unusedVariables false
open Go Go.RowKit Go.Proofs Sha
/-- Block g is a digest of the bytes m so far. -/
def SumAt (w : World) (g : Nat) (m : List UInt8) : Prop := ∃ v, Blk w g 101 (sumCells (wordsOf m) v m.length) ∧ Own w 5 1 v (restOf m).length (byteVals (restOf m))
/-- The blocks that a digest owns. -/
def sumSet (w : World) (g : Nat) : Nat → Prop := fun k => k = g ∨ ∃ v, w.cell? ⟨g, 8, none⟩ = some v ∧ rowOf v k
theorem new_any (w : World) :
    Calls Try.prog 25 #[] w fun e w' => ∃ g, e = .returned (.pointer (some ⟨g, 0, none⟩)) ∧ SumAt w' g [] ∧ w.heap.size ≤ g ∧ (∀ k, sumSet w' g k → w.heap.size ≤ k) ∧ Below w.heap.size w w' := by
  go_enter Try.func25, Try.ntmps25
  go_wp2_with (go_at_call 72; refine (start_any _).mono ?_; rintro e w1 ⟨rfl, hb1⟩)
  go_ret
  have hb : Blk (w1.alloc (.cells (sumCells init (.slice none 0 0) 0) 101)) w1.heap.size 101 (sumCells init (.slice none 0 0) 0) := Blk.new _ _ _
  refine ⟨w1.heap.size, rfl, ⟨.slice none 0 0, hb, Own.nil _ _ _⟩, hb1.size, fun k hk => ?_, hb1.alloc hb1.size _⟩
  rcases hk with rfl | ⟨v, hv, hk⟩
  · exact hb1.size
  · have e := hb.cell 8
    have hv' : v = .slice none 0 0 := Option.some.inj (hv.symm.trans e)
    subst hv'
    cases hk

theorem info5 : (Try.prog.info? 5).map (fun i => (i.zero, i.size, i.bytes)) = some (some (.int .u8 0), 1, 1) := by kernel_rfl
theorem sum_not_u8 (s : St) (v : Value) (n i : Nat) (z : Int) (hv : ∀ z, v ≠ .int .u8 z) : (sumCells s v n)[i]? ≠ some (.int .u8 z) := by
  intro h
  match i with
  | 0 | 1 | 2 | 3 | 4 | 5 | 6 | 7 => simp [sumCells, v32] at h
  | 8 => simp [sumCells] at h; exact hv z h
  | 9 => simp [sumCells] at h
  | i + 10 => simp [sumCells] at h
theorem Own.not_int {w : World} {e : TypeId} {s n : Nat} {v : Value} {xs : List Value} (h : Own w e s v n xs) (k : IntKind) (z : Int) : v ≠ .int k z := by
  obtain ⟨A, c, rfl, _⟩ := h.shape
  intro h; cases h
theorem Bytes.ne_sum {w : World} {bg bo g : Nat} {x : List UInt8} {s : St} {v : Value} {n : Nat} (hx : Bytes w (some ⟨bg, bo, none⟩) x) (hl : 0 < x.length) (hb : Blk w g 101 (sumCells s v n)) (hv : ∀ z, v ≠ .int .u8 z) : bg ≠ g := by
  rintro rfl
  obtain ⟨g', o', e, _, hc⟩ := hx.at_ hl
  injection e with e
  injection e with e1 e2
  subst e1 e2
  have h := hc 0 hl
  rw [hb.cell] at h
  exact sum_not_u8 s v n _ _ hv h
/-- The head of an owned row is cut off. -/
theorem Own.cut {w : World} {e : TypeId} {A : Option Addr} {n cap k : Nat} {xs : List Value} (h : Own w e 1 (.slice A n cap) n xs) (hk : k ≤ n) (g o : Nat) (hA : A = some ⟨g, o, none⟩) :
    Own w e 1 (.slice (if cap = k then some ⟨g, o, none⟩ else some ⟨g, o + k, none⟩) (n - k) (cap - k)) (n - k) (xs.drop k) := by
  subst hA
  obtain ⟨hl, h2⟩ := h
  refine ⟨by rw [List.length_drop, hl]; omega, ?_⟩
  rcases h2 with ⟨hv, _⟩ | ⟨g', o', cap', cur, hv, hb, h3, h4, h5, h6⟩
  · cases hv
  · injection hv with e1 e2 e3
    injection e1 with e1
    injection e1 with e1 e4
    subst e1 e4 e3
    refine .inr ?_
    by_cases hc : cap = k
    · rw [if_pos hc]
      refine ⟨g, o, cap - k, cur, rfl, hb, by omega, by omega, by omega, fun j u hj => ?_⟩
      rw [List.getElem?_drop] at hj
      have := (List.getElem?_eq_some_iff.1 hj).1
      omega
    · rw [if_neg hc]
      refine ⟨g, o + k, cap - k, cur, rfl, hb, by omega, by omega, by omega, fun j u hj => ?_⟩
      rw [List.getElem?_drop] at hj
      have := h6 (k + j) u hj
      rw [← this]; congr 1; omega
def lenAt (w : World) (g o : Nat) : Nat := match w.cell? ⟨g, o, none⟩ with | some (.slice _ n _) => n | _ => 0
theorem lenAt_of {w : World} {g o : Nat} {A : Option Addr} {n c : Nat} (h : w.cell? ⟨g, o, none⟩ = some (.slice A n c)) : lenAt w g o = n := by unfold lenAt; rw [h]
set_option maxRecDepth 100000 in
set_option maxHeartbeats 1000000 in
theorem add_gen (g : Nat) (s : St) (v : Value) (R0 x : List UInt8) (n : Nat) (A : Option Addr) (c : Nat) (w : World) (hb : Blk w g 101 (sumCells s v n)) (hown : Own w 5 1 v R0.length (byteVals R0)) (hx : Bytes w A x) (hrl : R0.length ≤ 1000) (hm : n + x.length ≤ 1000000000) :
    Calls Try.prog 26 #[.pointer (some ⟨g, 0, none⟩), .slice A x.length c] w fun e w' => e = .returned (.int .i64 ((n + x.length : Nat) : Int)) ∧ ∃ v', Blk w' g 101 (sumCells (absorb ((R0 ++ x).length / 64) s (R0 ++ x)) v' (n + x.length)) ∧ Own w' 5 1 v' ((R0 ++ x).drop (64 * ((R0 ++ x).length / 64))).length (byteVals ((R0 ++ x).drop (64 * ((R0 ++ x).length / 64)))) ∧ Fr (sumSet w g) w w' ∧ ∀ k, rowOf v' k → sumSet w g k ∨ w.heap.size ≤ k := by
  obtain ⟨i0, hi0, hz0, hz1, hz2⟩ := info_parts info5
  have c8 : w.cell? ⟨g, 8, none⟩ = some v := hb.cell 8
  have c9 : w.cell? ⟨g, 9, none⟩ = some (.int .i64 (n : Int)) := hb.cell 9
  have f8 := hb.frozen 8
  have f9 := hb.frozen 9
  have hb9 := hb.set_ 9 (.int .i64 ((n : Int) + x.length))
  have hown9 : Own (w.setCell ⟨g, 9, none⟩ (.int .i64 ((n : Int) + x.length))) 5 1 v R0.length (byteVals R0) := hown.fr ((Fr.refl (one g) w).setCell' (.inl rfl) _) (fun k hk => by cases hk; exact hown.blk_ne hb (by decide))
  have hx9 : Bytes (w.setCell ⟨g, 9, none⟩ (.int .i64 ((n : Int) + x.length))) A x := by
    refine hx.fr ((Fr.refl (one g) w).setCell' (.inl rfl) _) (fun bg bo h0 e hbg => ?_)
    subst e
    cases hbg
    exact Bytes.ne_sum hx h0 hb (fun z => hown.not_int _ _) rfl
  go_enter Try.func26, Try.ntmps26
  go_wp2_with (first
    | (at_builtin; refine wpList_append_o _ rfl _ _ 22 rfl 5 i0 (.int .u8 0) 1 1 Try.underlying22 hi0 hz0 hz1 hz2 rfl (by omega) v R0.length (byteVals R0) rfl hown9 A x.length c (byteVals x) rfl hx9 (byteVals_one x) (by simp only [maxLen]; omega) (by omega) ?_; intro v1 w1 hown1 hf1 hr1
       obtain ⟨A1, cap1, rfl, hc1, hc2⟩ := hown1.shape
       have hb1 := hb9.fr hf1 (hown.blk_ne hb (by decide))
       have d8 := hb1.frozen 8
       have e8 : w1.cell? ⟨g, 8, none⟩ = some v := hb1.cell 8))
  have hb2 := hb1.set_ 8 (.slice A1 (R0.length + x.length) cap1)
  have hne1 : ¬ rowOf (.slice A1 (R0.length + x.length) cap1) g := hown1.blk_ne hb1 (by decide)
  have hown2 : Own (w1.setCell ⟨g, 8, none⟩ (.slice A1 (R0.length + x.length) cap1)) 5 1 (.slice A1 (R0.length + x.length) cap1) (R0.length + x.length) (byteVals R0 ++ byteVals x) := hown1.fr ((Fr.refl (one g) w1).setCell' (.inl rfl) _) (fun k hk => by cases hk; exact hne1)
  have hF2' : Fr (sumSet w g) w (w1.setCell ⟨g, 8, none⟩ (.slice A1 (R0.length + x.length) cap1)) := by
    refine Fr.setCell' ?_ (.inl (.inl rfl)) _
    refine ((Fr.refl _ w).setCell' (.inl (.inl rfl)) _).then hf1 (fun k hk => .inl (.inr ⟨v, c8, hk⟩))
  have hR2 : ∀ k, rowOf (.slice A1 (R0.length + x.length) cap1) k → sumSet w g k ∨ w.heap.size ≤ k := fun k hk => by
    rcases hr1 k hk with h | h
    · exact .inl (.inr ⟨v, c8, h⟩)
    · exact .inr (by simpa [World.setCell] using h)
  have hB2 : Blk (w1.setCell ⟨g, 8, none⟩ (.slice A1 (R0.length + x.length) cap1)) g 101 (sumCells (absorb 0 s (R0 ++ x)) (.slice A1 (R0.length + x.length) cap1) (n + x.length)) := by
    simpa [sumCells, absorb] using hb2
  rw [← byteVals_append] at hown2
  have hlR : (R0 ++ x).length = R0.length + x.length := by simp
  have hbd : (R0 ++ x).length ≤ 2000000000 := by omega
  rw [← hlR] at hB2 hown2 hR2 hF2'
  obtain ⟨R, HR⟩ : ∃ R, Hid (R = R0 ++ x) := ⟨_, rfl⟩
  rw [← HR.out] at hB2 hown2 hR2 hF2' hbd
  have H0 : Hid (R.length = R0.length + x.length) := by show R.length = _; rw [HR.out]; simp
  rw [← H0.out]
  clear hb2 hne1 e8 d8 hb1 hown1 hf1 hown9 hb9 hx9 hlR c9 f8 f9
  go_loopw [25] (fun _ wr => ∃ (j N : Nat) (A2 : Option Addr) (cap2 : Nat), 64 * j ≤ R.length ∧ Hid (N = R.length - 64 * j) ∧ Blk wr g 101 (sumCells (absorb j s R) (.slice A2 N cap2) (n + x.length)) ∧ Own wr 5 1 (.slice A2 N cap2) N (byteVals (R.drop (64 * j))) ∧ Fr (sumSet w g) w wr ∧ (∀ k, rowOf (.slice A2 N cap2) k → sumSet w g k ∨ w.heap.size ≤ k)) (fun _ wr => lenAt wr g 8)
  case atStart => exact ⟨0, R.length, A1, cap1, by omega, rfl, hB2, hown2, hF2', hR2⟩
  case round =>
    obtain ⟨j, N, A2, cap2, hj, HN, rB, rO, rF, rR⟩ := hrel
    have e8 : wr.cell? ⟨g, 8, none⟩ = some (.slice A2 N cap2) := rB.cell 8
    have d8 := rB.frozen 8
    have hNb : N ≤ 2000000000 := by rw [HN.out]; omega
    obtain ⟨_, _, hv, hcN, hcM⟩ := rO.shape
    cases hv
    have Hlen := Lib.hid (lenAt_of e8)
    by_cases h64 : 64 ≤ N
    · obtain ⟨gr, o, cap', hv, hgr, hrow, hcells⟩ := rO.cells (by omega)
      cases hv
      have hRN : R.length = 64 * j + N := by rw [HN.out]; omega
      have hlb : ((R.drop (64 * j)).take 64).length = 64 := by simp; omega
      have hbc : ∀ i, i < 64 → wr.cell? ⟨gr, o + i, none⟩ = some (.int .u8 (n8 (((R.drop (64 * j)).take 64).getD i 0))) := fun i hi => by
        rw [hcells i _ (byteVals_get _ i (by simp; omega))]
        simp [v8, List.getElem?_take, hi]
      have K := round_any g _ _ _ gr o cap2 _ wr rB hlb hgr hbc
      have HK := Lib.hid K
      clear K hbc hlb hRN hcells
      go_wp2_with (go_at_call 73; refine HK.out.mono ?_; rintro e w3 ⟨rfl, hB3, hF3⟩; have c38 : w3.cell? ⟨g, 8, none⟩ = some (.slice (some ⟨gr, o, none⟩) N cap2) := hB3.cell 8; have f38 := hB3.frozen 8)
      have hB4 := hB3.set_ 8 (.slice (if cap2 = 64 then some ⟨gr, o, none⟩ else some ⟨gr, o + 64, none⟩) (N - 64) (cap2 - 64))
      have hO4 := (rO.cut h64 gr o rfl).fr (hF3.setCell' (g := g) (o := 8) (s := none) (.inl rfl) (.slice (if cap2 = 64 then some ⟨gr, o, none⟩ else some ⟨gr, o + 64, none⟩) (N - 64) (cap2 - 64))) (fun k hk hk2 => by
        cases hk
        refine rO.blk_ne rB (by decide) ?_
        split at hk2 <;> exact hk2)
      go_roundw
      case rel =>
        refine ⟨j + 1, N - 64, (if cap2 = 64 then some ⟨gr, o, none⟩ else some ⟨gr, o + 64, none⟩), cap2 - 64, by have := HN.out; omega, by show _ = _; have := HN.out; omega, ?_, ?_, ?_, ?_⟩
        · simpa [sumCells, absorb_succ] using hB4
        · rw [show 64 * (j + 1) = 64 * j + 64 by omega, ← List.drop_drop]
          simpa [byteVals, List.map_drop] using hO4
        · exact (rF.then hF3 (fun i hi => .inl (.inl hi))).setCell' (.inl (.inl rfl)) _
        · intro k hk
          refine rR k ?_
          split at hk <;> exact hk
      case measure =>
        rw [Hlen.out, lenAt_of (A := if cap2 = 64 then some ⟨gr, o, none⟩ else some ⟨gr, o + 64, none⟩) (n := N - 64) (c := cap2 - 64)]
        · omega
        · exact hB4.cell 8
    · have hj2 : j = R.length / 64 := by have := HN.out; omega
      have c9 : wr.cell? ⟨g, 9, none⟩ = some (.int .i64 ((n + x.length : Nat) : Int)) := rB.cell 9
      go_wp2_with fail
      go_ret
      refine ⟨rfl, .slice A2 N cap2, ?_, ?_, rF, rR⟩
      · rw [← HR.out, ← hj2]; exact rB
      · rw [← HR.out, ← hj2]
        have e : (R.drop (64 * j)).length = N := by have := HN.out; simp; omega
        rw [e]; exact rO
theorem add_any (g : Nat) (m x : List UInt8) (A : Option Addr) (c : Nat) (w : World) (hs : SumAt w g m) (hx : Bytes w A x) (hm : m.length + x.length ≤ 1000000000) :
    Calls Try.prog 26 #[.pointer (some ⟨g, 0, none⟩), .slice A x.length c] w fun e w' => e = .returned (.int .i64 ((m.length + x.length : Nat) : Int)) ∧ SumAt w' g (m ++ x) ∧ Fr (sumSet w g) w w' ∧ ∀ k, sumSet w' g k → sumSet w g k ∨ w.heap.size ≤ k := by
  obtain ⟨v, hb, hown⟩ := hs
  refine (add_gen g _ v _ x _ A c w hb hown hx (by have := restOf_lt m; omega) hm).mono ?_
  rintro e w' ⟨rfl, v', hB, hO, hF, hR⟩
  rw [words_add] at hB
  rw [rest_add] at hO
  refine ⟨rfl, ⟨v', by rw [List.length_append]; exact hB, hO⟩, hF, ?_⟩
  rintro k (rfl | ⟨u, hu, hk⟩)
  · exact .inl (.inl rfl)
  · have hu' : u = v' := Option.some.inj (hu.symm.trans (hB.cell 8))
    subst hu'
    exact hR k hk
theorem add_nil (g : Nat) (s : St) (v : Value) (R0 : List UInt8) (n : Nat) (w : World) (hb : Blk w g 101 (sumCells s v n)) (hown : Own w 5 1 v R0.length (byteVals R0)) (hrl : R0.length ≤ 1000) (hm : n ≤ 1000000000) :
    Calls Try.prog 26 #[.pointer (some ⟨g, 0, none⟩), .slice none 0 0] w fun e w' => e = .returned (.int .i64 (n : Int)) ∧ ∃ v', Blk w' g 101 (sumCells (absorb (R0.length / 64) s R0) v' n) ∧ Fr (sumSet w g) w w' := by
  refine (add_gen g s v R0 [] n none 0 w hb hown (Bytes.nil w none) hrl (by simpa using hm)).mono ?_
  rintro e w' ⟨rfl, v', hB, _, hF, _⟩
  refine ⟨rfl, v', by simpa using hB, hF⟩
end Go.Proofs.Ytnlkjhhocehhaaa
