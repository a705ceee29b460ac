/- The law OutboxTries: what is not taken is tried six times, at 0, 2, 6, 14, 30 and 62 behind its putting, and given up behind Longest. For every input. Written by wip/mktries.py. -/
import Derived.Test.YtkagfnocpllcpaaLives
import Derived.Test.YtkagfnocpllcpaaAll
import Derived.Test.YtkagfnocpllcpaaFrame
namespace Go.Proofs.Ytkagfnocpllcpaa.outboxTries
open Go Go.RowKit Go.Proofs Go.Proofs.Ytkagfnocpllcpaa
set_option linter.unusedVariables false
theorem wrap_u64' (n : Int) : IntKind.u64.wrap n = n % 18446744073709551616 := by
  simp [IntKind.wrap, IntKind.bits, IntKind.signed]
theorem rem_r (m : Nat) (hm : 0 < m) (z : Int) : ∃ r : Nat, r < m ∧ IntKind.u64.wrap z % (m : Int) = (r : Int) ∧ (IntKind.u64.wrap z).tmod (m : Int) = (r : Int) := by
  have h0 : 0 ≤ IntKind.u64.wrap z := by rw [wrap_u64']; omega
  have h1 := Int.emod_nonneg (IntKind.u64.wrap z) (show (m : Int) ≠ 0 by omega)
  have h2 := Int.emod_lt_of_pos (IntKind.u64.wrap z) (show (0 : Int) < (m : Int) by omega)
  exact ⟨(IntKind.u64.wrap z % (m : Int)).toNat, by omega, by omega, by rw [Int.tmod_eq_emod_of_nonneg h0]; omega⟩
/-- When the entry is tried for the n-th time, behind its putting. -/
def tA (n : Nat) : Int := 2 ^ (n + 1) - 2
theorem tA_cases (n : Nat) (h : n ≤ 6) : (n = 0 ∧ tA n = 0) ∨ (n = 1 ∧ tA n = 2) ∨ (n = 2 ∧ tA n = 6) ∨ (n = 3 ∧ tA n = 14) ∨ (n = 4 ∧ tA n = 30) ∨ (n = 5 ∧ tA n = 62) ∨ (n = 6 ∧ tA n = 126) := by
  have h : n = 0 ∨ n = 1 ∨ n = 2 ∨ n = 3 ∨ n = 4 ∨ n = 5 ∨ n = 6 := by omega
  rcases h with rfl | rfl | rfl | rfl | rfl | rfl | rfl <;> decide
theorem tA_wait (n : Nat) (h : n < 6) : tA n + waitI ((n : Int) + 1) = tA (n + 1) ∧ tA n + 1 < tA (n + 1) := by
  have h : n = 0 ∨ n = 1 ∨ n = 2 ∨ n = 3 ∨ n = 4 ∨ n = 5 := by omega
  rcases h with rfl | rfl | rfl | rfl | rfl | rfl <;> decide +kernel
/-- The entry that waits, behind n tries. -/
def ent (f : Int) (n : Nat) : E := ⟨sA, sX, f + tA n, (n : Int), f⟩
def atC : Array Value := #[.int .i64 0, .int .i64 2, .int .i64 6, .int .i64 14, .int .i64 30, .int .i64 62]
theorem atC_get (n : Nat) (h : n < 6) : atC[n]? = some (.int .i64 (tA n)) := by
  have h : n = 0 ∨ n = 1 ∨ n = 2 ∨ n = 3 ∨ n = 4 ∨ n = 5 := by omega
  rcases h with rfl | rfl | rfl | rfl | rfl | rfl <;> rfl
/-- What the box has at time t: the entry behind n tries; or nothing, behind Longest. -/
def St (f : Int) (t n : Nat) (gn : Int) (q : List E) : Prop :=
  (n ≤ 6 ∧ gn = -1 ∧ (t : Int) ≤ tA n ∧ q = [ent f n]) ∨ (n = 6 ∧ gn = 126 ∧ 126 < t ∧ q = [])
set_option maxRecDepth 100000 in
set_option maxHeartbeats 40000000 in
theorem walk (a0 : Int) (a1 : Int) (w : World) :
    Calls Try.prog 6 #[.int .i64 a0, .int .i64 a1] w fun e w' => e = .returned (.bool true) ∧ Below w.heap.size w w' := by
  obtain ⟨f, hf, hf1, hf2⟩ := rem_r 1000 (by decide) a0
  obtain ⟨k, hk, hk1, hk2⟩ := rem_r 200 (by decide) a1
  have HF1 : IntKind.u64.wrap a0 % 1000 = (f : Int) := hf1
  have HF2 : (IntKind.u64.wrap a0).tmod 1000 = (f : Int) := hf2
  have HK1 : IntKind.u64.wrap a1 % 200 = (k : Int) := hk1
  have HK2 : (IntKind.u64.wrap a1).tmod 200 = (k : Int) := hk2
  clear hf1 hf2 hk1 hk2
  have hfn : (0 : Int) ≤ (f : Int) := by omega
  have hclk0 : clockB 0 (f : Int) = true := by unfold clockB; simp; omega
  have hp := put_empty 0 sA sX (f : Int) (by decide) (by decide) hclk0
  have HP := Lib.hid hp
  have HLG := Lib.hid (fun w => longest_any w)
  clear hp hclk0
  go_enter Try.func6, Try.ntmps6
  go_wp2_with (first
    | (go_at_call 9
       refine (lives_any w).mono ?_
       rintro e w1 ⟨rfl, hb1⟩)
    | (go_at_call 17
       refine (new_any _).mono ?_
       rintro e w2 ⟨rfl, hX2, hb2⟩
       have hL2 := Lb.new hX2 rfl hb2 hb1
       have hC2 := put_any w1.heap.size _ [] 0 sA sX (f : Int) w2 hL2.box (by simp) (by unfold maxLen; decide)
       rw [HP.out] at hC2
       have HL2 := Lib.hid hL2
       have HC2 := Lib.hid hC2
       clear hX2 hb2 hL2 hC2)
    | (go_at_call 11
       refine HC2.out.mono ?_
       rintro e w3 ⟨rfl, hT⟩
       obtain ⟨v3, hL3, _⟩ := HL2.out.to hT
       have HL3 := Lib.hid hL3
       clear hT hL3)
    | fail)
  obtain ⟨b, hb⟩ : ∃ b, b = w1.heap.size := ⟨_, rfl⟩
  obtain ⟨ga, hga⟩ : ∃ ga, ga = w3.heap.size := ⟨_, rfl⟩
  have hB3 : Blk (w3.alloc (.cells atC 3)) w3.heap.size 3 atC := Blk.new _ _ _
  have hL4 := HL3.out.keep (W' := w3.alloc (.cells atC 3)) ((Below.refl _ w3).alloc (Nat.le_refl _) _)
  have HL4 := Lib.hid hL4
  have HB3 := Lib.hid hB3
  clear HL3 hL4 hB3
  show Code.wp _ _ _ _ (w3.alloc (.cells atC 3))
  obtain ⟨wa, hwa⟩ : ∃ wa, wa = w3.alloc (.cells atC 3) := ⟨_, rfl⟩
  rw [← hwa] at HL4 HB3 ⊢
  rw [← hga] at HB3 ⊢
  rw [← hb] at HL4 ⊢
  clear hwa hga hb hb1
  go_loopw [7, 8, 9] (fun c7 c8 c9 wr => ∃ (t n : Nat) (gn bn : Int) (v : Value) (q : List E), c7 = .int .i64 (n : Int) ∧ c8 = .int .i64 gn ∧ c9 = .int .i64 (t : Int) ∧ t ≤ k ∧ t ≤ 130 ∧ 0 ≤ bn ∧ bn ≤ (f : Int) + (t : Int) ∧ St (f : Int) t n gn q ∧ Lb w wr b v q bn ∧ Blk wr ga 3 atC) (fun _ _ c9 _ => 131 - (intOf c9).toNat)
  case atStart => exact ⟨0, 0, -1, (f : Int), v3, _, rfl, rfl, rfl, by omega, by omega, hfn, by omega, .inl ⟨by omega, rfl, by decide, rfl⟩, HL4.out, HB3.out⟩
  case round =>
    obtain ⟨t, n, gn, bn, v, q, rfl, rfl, rfl, htk, ht130, hbn, hbt, hst, hL, hB⟩ := hrel
    have HL := Lib.hid hL
    have HB := Lib.hid hB
    clear hL hB HL4 HB3
    obtain ⟨z, hfz⟩ : ∃ z : Int, (f : Int) + (t : Int) = z := ⟨_, rfl⟩
    have hz0 : 0 ≤ z := by omega
    have hz1 : z ≤ 1200 := by omega
    have hclk : clockB bn z = true := by unfold clockB; simp; omega
    by_cases h130 : t ≤ 129
    · have hd : decide ((t : Int) ≤ 129) = true := decide_eq_true (by omega)
      rcases hst with ⟨hn6, rfl, htA, rfl⟩ | ⟨rfl, rfl, h126, rfl⟩
      · by_cases hlt : (t : Int) < tA n
        · have htry := try_wait bn z (ent (f : Int) n) hclk (show ¬ (f : Int) + tA n ≤ z by omega)
          as_aux_lemma =>
            have hC := fun w (hb : BoxA w b v [ent (f : Int) n] bn) => try_any b v [ent (f : Int) n] bn z w hb (by simp) hbn (due_tries z _ (show 0 ≤ (n : Int) by omega) (show (n : Int) ≤ 6 by omega))
            rw [htry] at hC
            have HC := Lib.hid hC
            have hkT : takeF [ent (f : Int) n] sA = (0, []) := take_own _
            have HKT := Lib.hid hkT
            clear htry hC hkT hclk
            by_cases htk2 : t = k
            · subst htk2
              go_wp2_with (first
                | (go_at_call 22
                   refine (HLG.out _).mono ?_
                   rintro en w4 ⟨rfl, rfl⟩)
                | (go_at_call 10
                   refine (HC.out _ HL.out.box).mono ?_
                   rintro en w5 ⟨⟨vo, vg, rfl, hO, hG⟩, hT⟩
                   obtain ⟨v5, hL5, hF5⟩ := HL.out.to hT
                   have hB5 : Blk w5 ga 3 atC := HB.out.fr hF5 (fun hk => hk.elim (fun e => absurd e (HB.out.ne_ HL.out.box.blk (by decide))) (Own.blk_ne HL.out.box.ents HB.out (by decide)))
                   obtain ⟨Ao, co, hvo, _, _⟩ := hO.ents.shape
                   subst hvo
                   obtain ⟨Ag, cg, hvg, _, _⟩ := hG.own.shape
                   subst hvg
                   have HL5 := Lib.hid hL5
                   have HB5 := Lib.hid hB5
                   have hT6 := take_any b v5 _ z sA w5 HL5.out.box (by simp)
                   rw [HKT.out] at hT6
                   have HT6 := Lib.hid hT6
                   clear hT6
                   clear hT hL5 hO hG hF5 hB5)
                | (go_at_call 12
                   refine HT6.out.mono ?_
                   rintro en w6 ⟨rfl, hT7⟩
                   obtain ⟨v6, hL6, hF6⟩ := HL5.out.to hT7
                   have HA := Lib.hid (all_any b v6 [] z w6 hL6.box (by simp))
                   have HL6 := Lib.hid hL6
                   clear hT7 hL6 hF6)
                | (go_at_call 14
                   refine HA.out.mono ?_
                   rintro en w7 ⟨v7, rfl, hE7, _, hb7⟩
                   obtain ⟨A7, c7, hv7, _, _⟩ := hE7.shape
                   have hl7 : (isortL []).length = 0 := rfl
                   rw [hl7] at hv7
                   subst hv7
                   clear hE7)
                | fail)
              go_ret
              exact ⟨rfl, HL6.out.bel.trans (hb7.mono HL6.out.bel.size)⟩
            · have hne : (((t : Int) : Int) == (k : Int)) = false := by rw [beq_eq_false_iff_ne]; omega
              go_wp2_with (first
                | (go_at_call 22
                   refine (HLG.out _).mono ?_
                   rintro en w4 ⟨rfl, rfl⟩)
                | (go_at_call 10
                   refine (HC.out _ HL.out.box).mono ?_
                   rintro en w5 ⟨⟨vo, vg, rfl, hO, hG⟩, hT⟩
                   obtain ⟨v5, hL5, hF5⟩ := HL.out.to hT
                   have hB5 : Blk w5 ga 3 atC := HB.out.fr hF5 (fun hk => hk.elim (fun e => absurd e (HB.out.ne_ HL.out.box.blk (by decide))) (Own.blk_ne HL.out.box.ents HB.out (by decide)))
                   obtain ⟨Ao, co, hvo, _, _⟩ := hO.ents.shape
                   subst hvo
                   obtain ⟨Ag, cg, hvg, _, _⟩ := hG.own.shape
                   subst hvg
                   have HL5 := Lib.hid hL5
                   have HB5 := Lib.hid hB5
                   clear hT hL5 hO hG hF5 hB5)
                | fail)
              go_roundw
              case rel => exact ⟨t + 1, n, -1, z, v5, _, by go_num, by go_num, by go_num, by omega, by omega, hz0, by omega, .inl ⟨hn6, rfl, by omega, rfl⟩, HL5.out, HB5.out⟩
              case measure => simp [intOf]; omega
        · have hte : (t : Int) = tA n := by omega
          by_cases h6 : n = 6
          · have ht126 : t = 126 := by rw [h6] at hte; have := (show tA 6 = 126 from rfl); omega
            have htry := try_gone bn z (ent (f : Int) n) hclk (show (f : Int) + tA n ≤ z by omega) (show ((n : Int)) = 6 by omega)
            have HT126 := Lib.hid ht126
            have HN6 := Lib.hid h6
            as_aux_lemma =>
              have hC := fun w (hb : BoxA w b v [ent (f : Int) n] bn) => try_any b v [ent (f : Int) n] bn z w hb (by simp) hbn (due_tries z _ (show 0 ≤ (n : Int) by omega) (show (n : Int) ≤ 6 by omega))
              rw [htry] at hC
              have HC := Lib.hid hC
              have hkT : takeF [] sA = (5, []) := take_empty _
              have HKT := Lib.hid hkT
              clear htry hC hkT hclk h6 ht126 hte
              by_cases htk2 : t = k
              · subst htk2
                go_wp2_with (first
                  | (go_at_call 22
                     refine (HLG.out _).mono ?_
                     rintro en w4 ⟨rfl, rfl⟩)
                  | (go_at_call 10
                     refine (HC.out _ HL.out.box).mono ?_
                     rintro en w5 ⟨⟨vo, vg, rfl, hO, hG⟩, hT⟩
                     obtain ⟨v5, hL5, hF5⟩ := HL.out.to hT
                     have hB5 : Blk w5 ga 3 atC := HB.out.fr hF5 (fun hk => hk.elim (fun e => absurd e (HB.out.ne_ HL.out.box.blk (by decide))) (Own.blk_ne HL.out.box.ents HB.out (by decide)))
                     obtain ⟨Ao, co, hvo, _, _⟩ := hO.ents.shape
                     subst hvo
                     obtain ⟨Ag, cg, hvg, _, _⟩ := hG.own.shape
                     subst hvg
                     have HL5 := Lib.hid hL5
                     have HB5 := Lib.hid hB5
                     have hT6 := take_any b v5 _ z sA w5 HL5.out.box (by simp)
                     rw [HKT.out] at hT6
                     have HT6 := Lib.hid hT6
                     clear hT6
                     clear hT hL5 hO hG hF5 hB5)
                  | (go_at_call 12
                     refine HT6.out.mono ?_
                     rintro en w6 ⟨rfl, hT7⟩
                     obtain ⟨v6, hL6, hF6⟩ := HL5.out.to hT7
                     have HA := Lib.hid (all_any b v6 [] z w6 hL6.box (by simp))
                     have HL6 := Lib.hid hL6
                     clear hT7 hL6 hF6)
                  | (go_at_call 14
                     refine HA.out.mono ?_
                     rintro en w7 ⟨v7, rfl, hE7, _, hb7⟩
                     obtain ⟨A7, c7, hv7, _, _⟩ := hE7.shape
                     have hl7 : (isortL []).length = 0 := rfl
                     rw [hl7] at hv7
                     subst hv7
                     clear hE7)
                  | fail)
                go_ret
                exact ⟨rfl, HL6.out.bel.trans (hb7.mono HL6.out.bel.size)⟩
              · have hne : (((t : Int) : Int) == (k : Int)) = false := by rw [beq_eq_false_iff_ne]; omega
                go_wp2_with (first
                  | (go_at_call 22
                     refine (HLG.out _).mono ?_
                     rintro en w4 ⟨rfl, rfl⟩)
                  | (go_at_call 10
                     refine (HC.out _ HL.out.box).mono ?_
                     rintro en w5 ⟨⟨vo, vg, rfl, hO, hG⟩, hT⟩
                     obtain ⟨v5, hL5, hF5⟩ := HL.out.to hT
                     have hB5 : Blk w5 ga 3 atC := HB.out.fr hF5 (fun hk => hk.elim (fun e => absurd e (HB.out.ne_ HL.out.box.blk (by decide))) (Own.blk_ne HL.out.box.ents HB.out (by decide)))
                     obtain ⟨Ao, co, hvo, _, _⟩ := hO.ents.shape
                     subst hvo
                     obtain ⟨Ag, cg, hvg, _, _⟩ := hG.own.shape
                     subst hvg
                     have HL5 := Lib.hid hL5
                     have HB5 := Lib.hid hB5
                     clear hT hL5 hO hG hF5 hB5)
                  | fail)
                go_roundw
                case rel => exact ⟨t + 1, n, (t : Int), z, v5, _, by go_num, by go_num, by go_num, by omega, by omega, hz0, by omega, .inr ⟨HN6.out, by have := HT126.out; omega, by have := HT126.out; omega, rfl⟩, HL5.out, HB5.out⟩
                case measure => simp [intOf]; omega
          · have hn : n < 6 := by omega
            have htry := try_go bn z (ent (f : Int) n) hclk (show (f : Int) + tA n ≤ z by omega) (show ¬ ((n : Int)) = 6 by omega)
            have hst2 : stepT z (ent (f : Int) n) = ent (f : Int) (n + 1) := by
              unfold stepT ent
              simp only [E.mk.injEq, true_and, and_true]
              have := tA_wait n hn
              exact ⟨by omega, by omega⟩
            rw [hst2] at htry
            as_aux_lemma =>
              have hC := fun w (hb : BoxA w b v [ent (f : Int) n] bn) => try_any b v [ent (f : Int) n] bn z w hb (by simp) hbn (due_tries z _ (show 0 ≤ (n : Int) by omega) (show (n : Int) ≤ 6 by omega))
              rw [htry] at hC
              have HC := Lib.hid hC
              have hkT : takeF [ent (f : Int) (n + 1)] sA = (0, []) := take_own _
              have HKT := Lib.hid hkT
              clear htry hC hkT hclk hst2
              have hcat : atC[n]? = some (.int .i64 (t : Int)) := by rw [hte]; exact atC_get n hn
              have HCAT := Lib.hid hcat
              have HTE := Lib.hid hte
              clear hcat hte
              have hn0 : (0 : Int) ≤ (n : Int) := by omega
              have hn6' : (n : Int) < 6 := by omega
              by_cases htk2 : t = k
              · subst htk2
                go_wp2_with (first
                  | (go_at_call 22
                     refine (HLG.out _).mono ?_
                     rintro en w4 ⟨rfl, rfl⟩)
                  | (go_at_call 10
                     refine (HC.out _ HL.out.box).mono ?_
                     rintro en w5 ⟨⟨vo, vg, rfl, hO, hG⟩, hT⟩
                     obtain ⟨v5, hL5, hF5⟩ := HL.out.to hT
                     have hB5 : Blk w5 ga 3 atC := HB.out.fr hF5 (fun hk => hk.elim (fun e => absurd e (HB.out.ne_ HL.out.box.blk (by decide))) (Own.blk_ne HL.out.box.ents HB.out (by decide)))
                     have hcb : w5.cell? ⟨ga, n, none⟩ = some (.int .i64 (t : Int)) := (hB5.cell n).trans HCAT.out
                     obtain ⟨g, o, co, hvo, _, hgl, _, _, hall⟩ := hO.ents.all (by simp)
                     obtain ⟨hr, _⟩ := hall 0 (by simp)
                     have hc3 : w5.cell? ⟨g, o + 3, none⟩ = some (.int .i64 ((n : Int) + 1)) := by have := hr 3 (.int .i64 (((n + 1 : Nat) : Int))) rfl; simpa using this
                     subst hvo
                     obtain ⟨Ag, cg, hvg, _, _⟩ := hG.own.shape
                     subst hvg
                     have HL5 := Lib.hid hL5
                     have HB5 := Lib.hid hB5
                     have hT6 := take_any b v5 _ z sA w5 HL5.out.box (by simp)
                     rw [HKT.out] at hT6
                     have HT6 := Lib.hid hT6
                     clear hT6
                     clear hT hL5 hO hG hF5 hB5 hall hr)
                  | (go_at_call 12
                     refine HT6.out.mono ?_
                     rintro en w6 ⟨rfl, hT7⟩
                     obtain ⟨v6, hL6, hF6⟩ := HL5.out.to hT7
                     have HA := Lib.hid (all_any b v6 [] z w6 hL6.box (by simp))
                     have HL6 := Lib.hid hL6
                     clear hT7 hL6 hF6)
                  | (go_at_call 14
                     refine HA.out.mono ?_
                     rintro en w7 ⟨v7, rfl, hE7, _, hb7⟩
                     obtain ⟨A7, c7, hv7, _, _⟩ := hE7.shape
                     have hl7 : (isortL []).length = 0 := rfl
                     rw [hl7] at hv7
                     subst hv7
                     clear hE7)
                  | fail)
                go_ret
                exact ⟨rfl, HL6.out.bel.trans (hb7.mono HL6.out.bel.size)⟩
              · have hne : (((t : Int) : Int) == (k : Int)) = false := by rw [beq_eq_false_iff_ne]; omega
                go_wp2_with (first
                  | (go_at_call 22
                     refine (HLG.out _).mono ?_
                     rintro en w4 ⟨rfl, rfl⟩)
                  | (go_at_call 10
                     refine (HC.out _ HL.out.box).mono ?_
                     rintro en w5 ⟨⟨vo, vg, rfl, hO, hG⟩, hT⟩
                     obtain ⟨v5, hL5, hF5⟩ := HL.out.to hT
                     have hB5 : Blk w5 ga 3 atC := HB.out.fr hF5 (fun hk => hk.elim (fun e => absurd e (HB.out.ne_ HL.out.box.blk (by decide))) (Own.blk_ne HL.out.box.ents HB.out (by decide)))
                     have hcb : w5.cell? ⟨ga, n, none⟩ = some (.int .i64 (t : Int)) := (hB5.cell n).trans HCAT.out
                     obtain ⟨g, o, co, hvo, _, hgl, _, _, hall⟩ := hO.ents.all (by simp)
                     obtain ⟨hr, _⟩ := hall 0 (by simp)
                     have hc3 : w5.cell? ⟨g, o + 3, none⟩ = some (.int .i64 ((n : Int) + 1)) := by have := hr 3 (.int .i64 (((n + 1 : Nat) : Int))) rfl; simpa using this
                     subst hvo
                     obtain ⟨Ag, cg, hvg, _, _⟩ := hG.own.shape
                     subst hvg
                     have HL5 := Lib.hid hL5
                     have HB5 := Lib.hid hB5
                     clear hT hL5 hO hG hF5 hB5 hall hr)
                  | fail)
                go_roundw
                case rel => exact ⟨t + 1, n + 1, -1, z, v5, _, by go_num, by go_num, by go_num, by omega, by omega, hz0, by omega, .inl ⟨by omega, rfl, by have := tA_wait n hn; have := HTE.out; omega, rfl⟩, HL5.out, HB5.out⟩
                case measure => simp [intOf]; omega
      · have htry := try_empty bn z hclk
        as_aux_lemma =>
          have hC := fun w (hb : BoxA w b v [] bn) => try_any b v [] bn z w hb (by simp) hbn (fun x hx => by cases hx)
          rw [htry] at hC
          have HC := Lib.hid hC
          have hkT : takeF [] sA = (5, []) := take_empty _
          have HKT := Lib.hid hkT
          clear htry hC hkT hclk
          by_cases htk2 : t = k
          · subst htk2
            go_wp2_with (first
              | (go_at_call 22
                 refine (HLG.out _).mono ?_
                 rintro en w4 ⟨rfl, rfl⟩)
              | (go_at_call 10
                 refine (HC.out _ HL.out.box).mono ?_
                 rintro en w5 ⟨⟨vo, vg, rfl, hO, hG⟩, hT⟩
                 obtain ⟨v5, hL5, hF5⟩ := HL.out.to hT
                 have hB5 : Blk w5 ga 3 atC := HB.out.fr hF5 (fun hk => hk.elim (fun e => absurd e (HB.out.ne_ HL.out.box.blk (by decide))) (Own.blk_ne HL.out.box.ents HB.out (by decide)))
                 obtain ⟨Ao, co, hvo, _, _⟩ := hO.ents.shape
                 subst hvo
                 obtain ⟨Ag, cg, hvg, _, _⟩ := hG.own.shape
                 subst hvg
                 have HL5 := Lib.hid hL5
                 have HB5 := Lib.hid hB5
                 have hT6 := take_any b v5 _ z sA w5 HL5.out.box (by simp)
                 rw [HKT.out] at hT6
                 have HT6 := Lib.hid hT6
                 clear hT6
                 clear hT hL5 hO hG hF5 hB5)
              | (go_at_call 12
                 refine HT6.out.mono ?_
                 rintro en w6 ⟨rfl, hT7⟩
                 obtain ⟨v6, hL6, hF6⟩ := HL5.out.to hT7
                 have HA := Lib.hid (all_any b v6 [] z w6 hL6.box (by simp))
                 have HL6 := Lib.hid hL6
                 clear hT7 hL6 hF6)
              | (go_at_call 14
                 refine HA.out.mono ?_
                 rintro en w7 ⟨v7, rfl, hE7, _, hb7⟩
                 obtain ⟨A7, c7, hv7, _, _⟩ := hE7.shape
                 have hl7 : (isortL []).length = 0 := rfl
                 rw [hl7] at hv7
                 subst hv7
                 clear hE7)
              | fail)
            go_ret
            exact ⟨rfl, HL6.out.bel.trans (hb7.mono HL6.out.bel.size)⟩
          · have hne : (((t : Int) : Int) == (k : Int)) = false := by rw [beq_eq_false_iff_ne]; omega
            go_wp2_with (first
              | (go_at_call 22
                 refine (HLG.out _).mono ?_
                 rintro en w4 ⟨rfl, rfl⟩)
              | (go_at_call 10
                 refine (HC.out _ HL.out.box).mono ?_
                 rintro en w5 ⟨⟨vo, vg, rfl, hO, hG⟩, hT⟩
                 obtain ⟨v5, hL5, hF5⟩ := HL.out.to hT
                 have hB5 : Blk w5 ga 3 atC := HB.out.fr hF5 (fun hk => hk.elim (fun e => absurd e (HB.out.ne_ HL.out.box.blk (by decide))) (Own.blk_ne HL.out.box.ents HB.out (by decide)))
                 obtain ⟨Ao, co, hvo, _, _⟩ := hO.ents.shape
                 subst hvo
                 obtain ⟨Ag, cg, hvg, _, _⟩ := hG.own.shape
                 subst hvg
                 have HL5 := Lib.hid hL5
                 have HB5 := Lib.hid hB5
                 clear hT hL5 hO hG hF5 hB5)
              | fail)
            go_roundw
            case rel => exact ⟨t + 1, 6, 126, z, v5, _, by go_num, by go_num, by go_num, by omega, by omega, hz0, by omega, .inr ⟨rfl, rfl, by omega, rfl⟩, HL5.out, HB5.out⟩
            case measure => simp [intOf]; omega
    · have hd : decide ((t : Int) ≤ 129) = false := decide_eq_false (by omega)
      rcases hst with ⟨hn6, rfl, htA, rfl⟩ | ⟨rfl, rfl, h126, rfl⟩
      · exfalso
        rcases tA_cases n hn6 with h | h | h | h | h | h | h <;> omega
      · go_wp2_with (first
          | (go_at_call 22
             refine (HLG.out _).mono ?_
             rintro en w4 ⟨rfl, rfl⟩)
          | (go_at_call 14
             refine (all_any b v [] bn _ HL.out.box (by simp)).mono ?_
             rintro en w7 ⟨v7, rfl, hE7, _, hb7⟩
             obtain ⟨A7, c7, hv7, _, _⟩ := hE7.shape
             have hl7 : (isortL []).length = 0 := rfl
             rw [hl7] at hv7
             subst hv7
             clear hE7)
          | fail)
        go_ret
        exact ⟨rfl, HL.out.bel.trans (hb7.mono HL.out.bel.size)⟩
end Go.Proofs.Ytkagfnocpllcpaa.outboxTries
