/- The contracts of cmp.Compare, cmp.Or and compare. -/
import Derived.Test.YtkagfnocpllcpaaEnt
import Derived.Test.YtkagfnocpllcpaaGrow
import Derived.Test.YtkagfnocpllcpaaFrame
import Derived.WalkLawsBesides
import Derived.WalkSpells
namespace Go.Proofs.Ytkagfnocpllcpaa
set_option linter.unusedVariables false
open Go Go.RowKit Go.Proofs
theorem nanI_any (x : Int) (w : World) : Calls Try.prog 53 #[.int .i64 x] w fun e w' => e = .returned (.bool false) ∧ w = w' := by
  go_enter Try.func53, Try.ntmps53
  go_wp2
  go_ret
  exact ⟨by simp, rfl⟩
theorem nanS_any (x : ByteArray) (w : World) : Calls Try.prog 54 #[.string x] w fun e w' => e = .returned (.bool false) ∧ w = w' := by
  go_enter Try.func54, Try.ntmps54
  go_wp2
  go_ret
  exact ⟨by simp, rfl⟩
theorem cmpI_any (a b : Int) (w : World) : Calls Try.prog 45 #[.int .i64 a, .int .i64 b] w fun e w' => e = .returned (.int .i64 (cmpI a b)) ∧ w = w' := by
  by_cases h : a < b
  · have e : cmpI a b = -1 := by unfold cmpI; rw [if_pos h]
    have E := Lib.hid e
    clear e
    go_enter Try.func45, Try.ntmps45
    go_wp2_with (go_at_call 53; refine (nanI_any _ _).mono ?_; rintro e w' ⟨rfl, rfl⟩)
    go_ret
    exact ⟨by rw [E.out]; first | rfl | simp, rfl⟩
  · by_cases h2 : b < a
    · have e : cmpI a b = 1 := by unfold cmpI; rw [if_neg h, if_pos h2]
      have E := Lib.hid e
      clear e
      go_enter Try.func45, Try.ntmps45
      go_wp2_with (go_at_call 53; refine (nanI_any _ _).mono ?_; rintro e w' ⟨rfl, rfl⟩)
      go_ret
      exact ⟨by rw [E.out]; first | rfl | simp, rfl⟩
    · have e : cmpI a b = 0 := by unfold cmpI; rw [if_neg h, if_neg h2]
      have E := Lib.hid e
      clear e
      go_enter Try.func45, Try.ntmps45
      go_wp2_with (go_at_call 53; refine (nanI_any _ _).mono ?_; rintro e w' ⟨rfl, rfl⟩)
      go_ret
      exact ⟨by rw [E.out]; first | rfl | simp, rfl⟩
theorem gtr_S (a b : ByteArray) : (!(Op.bytesLess a.toList b.toList || a.toList == b.toList)) = ltS b a := by
  cases h : ltS a b
  · cases k : ltS b a
    · have e := ltS_total h k
      subst e
      simp
    · unfold ltS at h
      rw [h, Bool.false_or]
      rw [Bool.not_eq_true', beq_eq_false_iff_ne]
      intro e
      rw [ByteArray.toList_eq, ByteArray.toList_eq] at e
      have : a = b := ByteArray.ext (Array.ext' e)
      subst this
      rw [ltS_irrefl] at k
      cases k
  · rw [ltS_asymm h]
    unfold ltS at h
    simp [h]
theorem cmpS_any (a b : ByteArray) (w : World) : Calls Try.prog 46 #[.string a, .string b] w fun e w' => e = .returned (.int .i64 (cmpS a b)) ∧ w = w' := by
  have hg := gtr_S a b
  cases h : ltS a b
  · have h' : Op.bytesLess a.toList b.toList = false := h
    rw [h', Bool.false_or] at hg
    cases k : ltS b a
    · have e : cmpS a b = 0 := by unfold cmpS; simp [h, k]
      rw [k] at hg
      have E := Lib.hid e
      clear e h k
      go_enter Try.func46, Try.ntmps46
      go_wp2_with (go_at_call 54; refine (nanS_any _ _).mono ?_; rintro e w' ⟨rfl, rfl⟩)
      go_ret
      exact ⟨by rw [E.out]; first | rfl | simp, rfl⟩
    · have e : cmpS a b = 1 := by unfold cmpS; simp [h, k]
      rw [k] at hg
      have E := Lib.hid e
      clear e h k
      go_enter Try.func46, Try.ntmps46
      go_wp2_with (go_at_call 54; refine (nanS_any _ _).mono ?_; rintro e w' ⟨rfl, rfl⟩)
      go_ret
      exact ⟨by rw [E.out]; first | rfl | simp, rfl⟩
  · have h' : Op.bytesLess a.toList b.toList = true := h
    have e : cmpS a b = -1 := by unfold cmpS; simp [h]
    have E := Lib.hid e
    clear e h hg
    go_enter Try.func46, Try.ntmps46
    go_wp2_with (go_at_call 54; refine (nanS_any _ _).mono ?_; rintro e w' ⟨rfl, rfl⟩)
    go_ret
    exact ⟨by rw [E.out]; first | rfl | simp, rfl⟩
/-- The first that is not 0. -/
def orI : List Int → Int
  | [] => 0
  | x :: l => if x ≠ 0 then x else orI l
theorem or_any (l : List Int) (g : Nat) (w : World) (hl : l.length = 3) (hb : Blk w g 3 (l.map (Value.int .i64)).toArray) :
    Calls Try.prog 44 #[.slice (some ⟨g, 0, none⟩) 3 3] w fun e w' => e = .returned (.int .i64 (orI l)) ∧ w = w' := by
  have hc : ∀ i, i < 3 → w.cell? ⟨g, i, none⟩ = some (.int .i64 (l.getD i 0)) := fun i hi => by
    rw [hb.cell]; simp [show i < l.length by omega]
  have HC := Lib.hid hc
  have HL := Lib.hid hl
  clear hc hl
  go_enter Try.func44, Try.ntmps44
  go_wp2_with fail
  go_loop [5, 8] (fun _ c8 => ∃ i : Nat, i ≤ 3 ∧ c8 = .int .i64 i ∧ orI l = orI (l.drop i)) (fun _ c8 => 3 - (intOf c8).toNat)
  case atStart => exact ⟨0, by omega, rfl, rfl⟩
  case round =>
    obtain ⟨i, hi, rfl, ho⟩ := hrel
    have HO := Lib.hid ho
    clear ho
    by_cases hi3 : i < 3
    · have hd : decide ((i : Int) < 3) = true := decide_eq_true (by omega)
      have hci := HC.out i hi3
      obtain ⟨x, hx⟩ : ∃ x, x = l.getD i 0 := ⟨_, rfl⟩
      rw [← hx] at hci
      have hdr : l.drop i = x :: l.drop (i + 1) := by
        rw [List.drop_eq_getElem_cons (by rw [HL.out]; exact hi3), hx]; simp [show i < l.length by rw [HL.out]; exact hi3]
      have HD := Lib.hid hdr
      clear hdr hx
      by_cases hx0 : x = 0
      · subst hx0
        go_wp2_with fail
        go_round
        case rel => exact ⟨i + 1, by omega, by go_num, by rw [HO.out, HD.out]; rfl⟩
        case measure => simp [intOf]; omega
      · have hne : (x != 0) = true := by simpa using hx0
        go_wp2_with fail
        go_ret
        exact ⟨by rw [HO.out, HD.out, orI, if_pos hx0]; rfl, rfl⟩
    · obtain rfl : i = 3 := by omega
      go_wp2_with fail
      go_ret
      exact ⟨by rw [HO.out, List.drop_of_length_le (by rw [HL.out]; omega)]; rfl, rfl⟩
theorem orI_cmp (a b : E) : orI [cmpI a.due b.due, cmpI a.put b.put, cmpS a.id b.id] = cmpE a b := by
  unfold cmpE
  simp only [orI]
  split
  · rfl
  · split
    · rfl
    · split
      · rfl
      · rename_i h; simp at h; exact h.symm
set_option maxHeartbeats 1000000 in
theorem compare_any (a b : E) (w : World) : Calls Try.prog 32 #[entV a, entV b] w fun e w' => e = .returned (.int .i64 (cmpE a b)) ∧ Below w.heap.size w w' := by
  obtain ⟨a1, a2, a3, a4, a5⟩ := a
  obtain ⟨b1, b2, b3, b4, b5⟩ := b
  have HE := Lib.hid (orI_cmp ⟨a1, a2, a3, a4, a5⟩ ⟨b1, b2, b3, b4, b5⟩)
  unfold entV entL
  go_enter Try.func32, Try.ntmps32
  go_wp2_with fail
  refine wp_region_pre 15 2 (by kernel_rfl) (by kernel_rfl) rfl ?_
  simp only [List.take_succ_cons, List.take_zero, List.drop_succ_cons, List.drop_zero]
  repeat (go_big_quiet_step (first
    | (go_at_call 45; with_reducible exact regrown_same (cmpI_any _ _ _))
    | (go_at_call 46; with_reducible exact regrown_same (cmpS_any _ _ _))))
  refine wpQuiet_nil ?_
  intro w2 hb2
  have HO := Lib.hid (or_any [cmpI a3 b3, cmpI a5 b5, cmpS a1 b1] w2.heap.size (w2.alloc (.cells #[.int .i64 (cmpI a3 b3), .int .i64 (cmpI a5 b5), .int .i64 (cmpS a1 b1)] 3)) rfl (Blk.new _ _ _))
  go_wp2_with (go_at_call 44; refine HO.out.mono ?_; rintro e w' ⟨rfl, rfl⟩)
  go_ret
  refine ⟨by rw [← HE.out]; rfl, ?_⟩
  have h1 : Below w.heap.size w ((w.alloc (.cells #[.string a1, .string a2, .int .i64 a3, .int .i64 a4, .int .i64 a5] 47)).alloc (.cells #[.string b1, .string b2, .int .i64 b3, .int .i64 b4, .int .i64 b5] 47)) :=
    ((Below.refl _ w).alloc (Nat.le_refl _) _).alloc (by simp) _
  exact (h1.trans (hb2.mono (by simp; omega))).alloc (by have := hb2.size; simp at this; omega) _
end Go.Proofs.Ytkagfnocpllcpaa
