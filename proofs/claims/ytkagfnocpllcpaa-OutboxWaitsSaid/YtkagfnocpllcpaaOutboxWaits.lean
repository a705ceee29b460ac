/- The law OutboxWaits: each wait is twice the one ahead, up to the sixth; what is tried late waits from then on. For every input. -/
import Derived.Test.YtkagfnocpllcpaaLives
import Derived.Test.YtkagfnocpllcpaaFrame
namespace Go.Proofs.Ytkagfnocpllcpaa.outboxWaits
open Go Go.RowKit Go.Proofs Go.Proofs.Ytkagfnocpllcpaa
set_option linter.unusedVariables false
theorem wrap_u64' (n : Int) : IntKind.u64.wrap n = n % 18446744073709551616 := by
  simp [IntKind.wrap, IntKind.bits, IntKind.signed]
theorem rem_r (z : Int) : ∃ r : Int, 0 ≤ r ∧ r < 100 ∧ IntKind.u64.wrap z % 100 = r ∧ (IntKind.u64.wrap z).tmod 100 = r := by
  have h0 : 0 ≤ IntKind.u64.wrap z := by rw [wrap_u64']; omega
  exact ⟨IntKind.u64.wrap z % 100, by omega, by omega, rfl, by rw [Int.tmod_eq_emod_of_nonneg h0]⟩
theorem wait_two (k : Nat) (h1 : 1 < k) (h6 : k ≤ 6) : waitI (k : Int) = 2 * waitI ((k : Int) - 1) := by
  have h : k = 2 ∨ k = 3 ∨ k = 4 ∨ k = 5 ∨ k = 6 := by omega
  rcases h with rfl | rfl | rfl | rfl | rfl <;> decide +kernel
/-- The entry that waits, behind k - 1 tries. -/
def ent (due : Int) (k : Nat) : E := ⟨sA, sX, due, (k : Int) - 1, 0⟩
set_option maxRecDepth 100000 in
set_option maxHeartbeats 4000000 in
theorem walk (a0 : Option Addr) (len0 cap0 : Nat) (z0 : List Int) (w : World) (w0 : IsRow .i64 w a0 len0 cap0 z0) :
    Calls Try.prog 5 #[.slice a0 len0 cap0] w fun e w' => e = .returned (.bool true) ∧ Below w.heap.size w w' := by
  have hcells : ∀ i, i < len0 → ∃ cg co, a0 = some ⟨cg, co, none⟩ ∧ cg < w.heap.size ∧ w.cell? ⟨cg, co + i, none⟩ = some (.int .i64 (z0.getD i 0)) := by
    intro i hi
    rcases w0 with ⟨_, rfl, _⟩ | ⟨x, rfl, hl, hm, hz, hcell, hwz⟩
    · omega
    · obtain ⟨b, off, spot⟩ := x
      have hc0 := hcell i (by omega)
      have hspot : spot = none := by simpa [Addr.add] using World.cell?_spot (hcell 0 (by omega))
      subst hspot
      refine ⟨b, off, rfl, ?_, by rw [← hc0, Addr.add_mid]⟩
      rcases Nat.lt_or_ge b w.heap.size with h' | h'
      · exact h'
      · rw [Addr.add_mid] at hc0
        simp [World.cell?, Array.getElem?_eq_none h'] at hc0
  have hlen : len0 ≤ maxLen := by
    rcases w0 with ⟨_, rfl, _⟩ | ⟨x, rfl, hl, hm, _⟩
    · unfold maxLen; omega
    · omega
  unfold maxLen at hlen
  have HCE := Lib.hid hcells
  clear hcells w0
  have hp := put_empty 0 sA sX 0 (by decide) (by decide) (by decide)
  have HP := Lib.hid hp
  clear hp
  go_enter Try.func5, Try.ntmps5
  go_wp2_with (first
    | (go_at_call 9
       refine (lives_any w).mono ?_
       rintro e w1 ⟨rfl, hb1⟩)
    | (go_at_call 17
       refine (new_any _).mono ?_
       rintro e w2 ⟨rfl, hX2, hb2⟩
       have hL2 := Lb.new hX2 rfl hb2 hb1
       have hC2 := put_any w1.heap.size _ [] 0 sA sX 0 w2 hL2.box (by simp) (by unfold maxLen; decide)
       rw [HP.out] at hC2
       have HL2 := Lib.hid hL2
       have HC2 := Lib.hid hC2
       clear hX2 hb2 hL2 hC2)
    | (go_at_call 11
       refine HC2.out.mono ?_
       rintro e w3 ⟨rfl, hT⟩
       obtain ⟨v3, hL3, _⟩ := HL2.out.to hT
       have HL3 := Lib.hid hL3
       clear hT hL3)
    | fail)
  obtain ⟨b, hb⟩ : ∃ b, b = w1.heap.size := ⟨_, rfl⟩
  rw [← hb] at HL3 ⊢
  clear hb hb1
  go_loopw [4, 5, 6, 7, 8, 36] (fun c4 c5 _ _ _ _ wr => ∃ (k : Nat) (now bn : Int) (v : Value), 1 ≤ k ∧ k ≤ 7 ∧ c5 = .int .i64 k ∧ c4 = .int .i64 now ∧ 0 ≤ bn ∧ bn ≤ now ∧ now ≤ 1000 * (k : Int) ∧ Lb w wr b v [ent now k] bn) (fun _ c5 _ _ _ _ _ => 8 - (intOf c5).toNat)
  case atStart => exact ⟨1, 0, 0, v3, by omega, by omega, rfl, rfl, by omega, by omega, by omega, HL3.out⟩
  case round =>
    obtain ⟨k, now, bn, v, hk1, hk7, rfl, rfl, hbn, hbnow, hnow, hL⟩ := hrel
    have HL := Lib.hid hL
    clear hL
    have hnow0 : 0 ≤ now := by omega
    by_cases hk6 : k ≤ 6
    · have hd6 : decide ((k : Int) ≤ 6) = true := decide_eq_true (by omega)
      have hnow1 : now ≤ 6000 := by omega
      by_cases hkl : k ≤ len0
      · have hdl : decide ((k : Int) ≤ (len0 : Int)) = true := decide_eq_true (by omega)
        obtain ⟨cg0, co0, rfl, hcg, hcc⟩ := HCE.out (k - 1) (by omega)
        have hce : wr.cell? ⟨cg0, co0 + (k - 1), none⟩ = some (.int .i64 (z0.getD (k - 1) 0)) := (HL.out.bel.cell (p := ⟨cg0, co0 + (k - 1), none⟩) hcg).trans hcc
        obtain ⟨z, hz⟩ : ∃ z, z = z0.getD (k - 1) 0 := ⟨_, rfl⟩
        rw [← hz] at hce
        obtain ⟨r, hr0, hr1, hr2, hr3⟩ := rem_r z
        have hz1 : ((k : Int) - 1).toNat = k - 1 := by omega
        have hz2 : (0 : Int) ≤ (k : Int) - 1 := by omega
        have hz3 : (k : Int) - 1 < (len0 : Int) := by omega
        obtain ⟨t, ht⟩ : ∃ t, now + r = t := ⟨_, rfl⟩
        have htn : now ≤ t := by omega
        have htn2 : t ≤ now + 100 := by omega
        clear hcc hz
        have ht0 : 0 ≤ t := by omega
        have hclk : clockB bn t = true := by unfold clockB; simp; omega
        obtain ⟨W, hW⟩ : ∃ W, W = waitI (k : Int) := ⟨_, rfl⟩
        have hWb := waitI_bd (k : Int)
        rw [← hW] at hWb
        obtain ⟨hWb1, hWb2⟩ := hWb
        have htry := try_go bn t (ent now k) hclk (show now ≤ t by omega) (show ¬ ((k : Int) - 1) = 6 by omega)
        have hst : stepT t (ent now k) = ent (t + W) (k + 1) := by
          unfold stepT ent
          simp only [E.mk.injEq, true_and, and_true]
          exact ⟨by rw [hW, show (k : Int) - 1 + 1 = k by omega], by omega⟩
        rw [hst] at htry
        have hC := try_any b v [ent now k] bn t
        have hC1 := fun w (hb : BoxA w b v [ent now k] bn) => hC w hb (by simp) hbn (due_tries t _ (show 0 ≤ (k : Int) - 1 by omega) (show (k : Int) - 1 ≤ 6 by omega))
        rw [htry] at hC1
        have HC := Lib.hid hC1
        have HWW := Lib.hid (fun w => wait_any (k : Int) w)
        rw [← hW] at HWW
        obtain ⟨W1, hW1⟩ : ∃ W1, W1 = waitI ((k : Int) - 1) := ⟨_, rfl⟩
        have HW1 := Lib.hid (fun w => wait_any ((k : Int) - 1) w)
        rw [← hW1] at HW1
        have hWW : 1 < k → (W != 2 * W1) = false := fun h1 => by
          rw [bne_eq_false_iff_eq, hW, hW1]
          exact wait_two k h1 hk6
        have hWb3 := waitI_bd ((k : Int) - 1)
        rw [← hW1] at hWb3
        obtain ⟨hWb4, hWb5⟩ := hWb3
        have hkk : ((k : Int) != (k : Int)) = false := by simp
        have hdd : ((t + W) != (t + W)) = false := by simp
        have hk10 : (0 : Int) ≤ (k : Int) := by omega
        have hk1k : 1 ≤ (k : Int) := by omega
        clear hclk htry hst hC hC1 hW hW1
        go_wp2_with (first
          | (go_at_call 10
             refine (HC.out _ HL.out.box).mono ?_
             rintro en w5 ⟨⟨vo, vg, rfl, hO, hG⟩, hT⟩
             obtain ⟨v5, hL5, _⟩ := HL.out.to hT
             obtain ⟨g, o, co, hvo, _, hgl, _, _, hall⟩ := hO.ents.all (by simp)
             obtain ⟨Ag, cg, hvg, _, _⟩ := hG.own.shape
             obtain ⟨hr, _⟩ := hall 0 (by simp)
             subst hvo hvg
             have hc2 : w5.cell? ⟨g, o + 2, none⟩ = some (.int .i64 (t + W)) := by have := hr 2 (.int .i64 (t + W)) rfl; simpa using this
             have hc3 : w5.cell? ⟨g, o + 3, none⟩ = some (.int .i64 (k : Int)) := by have := hr 3 (.int .i64 (((k + 1 : Nat) : Int) - 1)) rfl; simpa using this
             have HL5 := Lib.hid hL5
             clear hT hL5 hO hG hall hr)
          | fail)
        by_cases h1k : 1 < k
        · have hd1 : decide ((1 : Int) < (k : Int)) = true := decide_eq_true (by omega)
          have hw2 := hWW h1k
          refine wp_region_quiet_below (by kernel_rfl) (by kernel_rfl) ?_
          repeat (go_big_quiet_step (first
            | (go_at_call 16; with_reducible exact regrown_same (HWW.out _))
            | (go_at_call 16; with_reducible exact regrown_same (HW1.out _))))
          refine wpQuiet_nil ?_
          intro w6 hw6
          have hb6 := Re.below hw6
          clear hw6
          have HL6 := Lib.hid (HL5.out.keep hb6)
          have HN := Lib.hid (show Calls Try.prog 13 #[bP b] w6 fun e w' => e = .returned (.int .i64 (t + W)) ∧ w6 = w' from next_any b v5 _ t w6 HL6.out.box (by simp))
          go_wp2_with (first
            | (go_at_call 13
               refine HN.out.mono ?_
               rintro en w7 ⟨rfl, rfl⟩)
            | fail)
          go_roundw
          case rel => exact ⟨k + 1, t + W, t, v5, by omega, by omega, by go_num, rfl, by omega, by omega, by omega, HL6.out⟩
          case measure => simp [intOf]; omega
        · have hd1 : decide ((1 : Int) < (k : Int)) = false := decide_eq_false (by omega)
          refine wp_region_quiet_below (by kernel_rfl) (by kernel_rfl) ?_
          repeat (go_big_quiet_step (first
            | (go_at_call 16; with_reducible exact regrown_same (HWW.out _))
            | (go_at_call 16; with_reducible exact regrown_same (HW1.out _))))
          refine wpQuiet_nil ?_
          intro w6 hw6
          have hb6 := Re.below hw6
          clear hw6
          have HL6 := Lib.hid (HL5.out.keep hb6)
          have HN := Lib.hid (show Calls Try.prog 13 #[bP b] w6 fun e w' => e = .returned (.int .i64 (t + W)) ∧ w6 = w' from next_any b v5 _ t w6 HL6.out.box (by simp))
          go_wp2_with (first
            | (go_at_call 13
               refine HN.out.mono ?_
               rintro en w7 ⟨rfl, rfl⟩)
            | fail)
          go_roundw
          case rel => exact ⟨k + 1, t + W, t, v5, by omega, by omega, by go_num, rfl, by omega, by omega, by omega, HL6.out⟩
          case measure => simp [intOf]; omega
      · have hdl : decide ((k : Int) ≤ (len0 : Int)) = false := decide_eq_false (by omega)
        obtain ⟨t, rfl⟩ : ∃ t, t = now := ⟨_, rfl⟩
        have ht0 : 0 ≤ t := by omega
        have hclk : clockB bn t = true := by unfold clockB; simp; omega
        obtain ⟨W, hW⟩ : ∃ W, W = waitI (k : Int) := ⟨_, rfl⟩
        have hWb := waitI_bd (k : Int)
        rw [← hW] at hWb
        obtain ⟨hWb1, hWb2⟩ := hWb
        have htry := try_go bn t (ent t k) hclk (show t ≤ t by omega) (show ¬ ((k : Int) - 1) = 6 by omega)
        have hst : stepT t (ent t k) = ent (t + W) (k + 1) := by
          unfold stepT ent
          simp only [E.mk.injEq, true_and, and_true]
          exact ⟨by rw [hW, show (k : Int) - 1 + 1 = k by omega], by omega⟩
        rw [hst] at htry
        have hC := try_any b v [ent t k] bn t
        have hC1 := fun w (hb : BoxA w b v [ent t k] bn) => hC w hb (by simp) hbn (due_tries t _ (show 0 ≤ (k : Int) - 1 by omega) (show (k : Int) - 1 ≤ 6 by omega))
        rw [htry] at hC1
        have HC := Lib.hid hC1
        have HWW := Lib.hid (fun w => wait_any (k : Int) w)
        rw [← hW] at HWW
        obtain ⟨W1, hW1⟩ : ∃ W1, W1 = waitI ((k : Int) - 1) := ⟨_, rfl⟩
        have HW1 := Lib.hid (fun w => wait_any ((k : Int) - 1) w)
        rw [← hW1] at HW1
        have hWW : 1 < k → (W != 2 * W1) = false := fun h1 => by
          rw [bne_eq_false_iff_eq, hW, hW1]
          exact wait_two k h1 hk6
        have hWb3 := waitI_bd ((k : Int) - 1)
        rw [← hW1] at hWb3
        obtain ⟨hWb4, hWb5⟩ := hWb3
        have hkk : ((k : Int) != (k : Int)) = false := by simp
        have hdd : ((t + W) != (t + W)) = false := by simp
        have hk10 : (0 : Int) ≤ (k : Int) := by omega
        have hk1k : 1 ≤ (k : Int) := by omega
        clear hclk htry hst hC hC1 hW hW1
        go_wp2_with (first
          | (go_at_call 10
             refine (HC.out _ HL.out.box).mono ?_
             rintro en w5 ⟨⟨vo, vg, rfl, hO, hG⟩, hT⟩
             obtain ⟨v5, hL5, _⟩ := HL.out.to hT
             obtain ⟨g, o, co, hvo, _, hgl, _, _, hall⟩ := hO.ents.all (by simp)
             obtain ⟨Ag, cg, hvg, _, _⟩ := hG.own.shape
             obtain ⟨hr, _⟩ := hall 0 (by simp)
             subst hvo hvg
             have hc2 : w5.cell? ⟨g, o + 2, none⟩ = some (.int .i64 (t + W)) := by have := hr 2 (.int .i64 (t + W)) rfl; simpa using this
             have hc3 : w5.cell? ⟨g, o + 3, none⟩ = some (.int .i64 (k : Int)) := by have := hr 3 (.int .i64 (((k + 1 : Nat) : Int) - 1)) rfl; simpa using this
             have HL5 := Lib.hid hL5
             clear hT hL5 hO hG hall hr)
          | fail)
        by_cases h1k : 1 < k
        · have hd1 : decide ((1 : Int) < (k : Int)) = true := decide_eq_true (by omega)
          have hw2 := hWW h1k
          refine wp_region_quiet_below (by kernel_rfl) (by kernel_rfl) ?_
          repeat (go_big_quiet_step (first
            | (go_at_call 16; with_reducible exact regrown_same (HWW.out _))
            | (go_at_call 16; with_reducible exact regrown_same (HW1.out _))))
          refine wpQuiet_nil ?_
          intro w6 hw6
          have hb6 := Re.below hw6
          clear hw6
          have HL6 := Lib.hid (HL5.out.keep hb6)
          have HN := Lib.hid (show Calls Try.prog 13 #[bP b] w6 fun e w' => e = .returned (.int .i64 (t + W)) ∧ w6 = w' from next_any b v5 _ t w6 HL6.out.box (by simp))
          go_wp2_with (first
            | (go_at_call 13
               refine HN.out.mono ?_
               rintro en w7 ⟨rfl, rfl⟩)
            | fail)
          go_roundw
          case rel => exact ⟨k + 1, t + W, t, v5, by omega, by omega, by go_num, rfl, by omega, by omega, by omega, HL6.out⟩
          case measure => simp [intOf]; omega
        · have hd1 : decide ((1 : Int) < (k : Int)) = false := decide_eq_false (by omega)
          refine wp_region_quiet_below (by kernel_rfl) (by kernel_rfl) ?_
          repeat (go_big_quiet_step (first
            | (go_at_call 16; with_reducible exact regrown_same (HWW.out _))
            | (go_at_call 16; with_reducible exact regrown_same (HW1.out _))))
          refine wpQuiet_nil ?_
          intro w6 hw6
          have hb6 := Re.below hw6
          clear hw6
          have HL6 := Lib.hid (HL5.out.keep hb6)
          have HN := Lib.hid (show Calls Try.prog 13 #[bP b] w6 fun e w' => e = .returned (.int .i64 (t + W)) ∧ w6 = w' from next_any b v5 _ t w6 HL6.out.box (by simp))
          go_wp2_with (first
            | (go_at_call 13
               refine HN.out.mono ?_
               rintro en w7 ⟨rfl, rfl⟩)
            | fail)
          go_roundw
          case rel => exact ⟨k + 1, t + W, t, v5, by omega, by omega, by go_num, rfl, by omega, by omega, by omega, HL6.out⟩
          case measure => simp [intOf]; omega
    · obtain rfl : k = 7 := by omega
      have hd6 : decide (((7 : Nat) : Int) ≤ 6) = false := by decide
      have hclk : clockB bn now = true := by unfold clockB; simp; omega
      have htry := try_gone bn now (ent now 7) hclk (show now ≤ now by omega) (show (((7 : Nat) : Int) - 1) = 6 by omega)
      have hC := fun w (hb : BoxA w b v [ent now 7] bn) => try_any b v [ent now 7] bn now w hb (by simp) hbn (due_tries now _ (show 0 ≤ (((7 : Nat) : Int) - 1) by omega) (show (((7 : Nat) : Int) - 1) ≤ 6 by omega))
      rw [htry] at hC
      have HC := Lib.hid hC
      have HW0 := Lib.hid (show ∀ w, Calls Try.prog 16 #[.int .i64 0] w fun e w' => e = .returned (.int .i64 1) ∧ w = w' from fun w => wait_any 0 w)
      have HW7 := Lib.hid (show ∀ w, Calls Try.prog 16 #[.int .i64 7] w fun e w' => e = .returned (.int .i64 64) ∧ w = w' from fun w => wait_any 7 w)
      have HW6 := Lib.hid (show ∀ w, Calls Try.prog 16 #[.int .i64 6] w fun e w' => e = .returned (.int .i64 64) ∧ w = w' from fun w => wait_any 6 w)
      clear hclk htry hC
      go_wp2_with (first
        | (go_at_call 10
           refine (HC.out _ HL.out.box).mono ?_
           rintro en w5 ⟨⟨vo, vg, rfl, hO, hG⟩, hT⟩
           obtain ⟨v5, hL5, _⟩ := HL.out.to hT
           obtain ⟨A5, c5, rfl, _, _⟩ := hO.ents.shape
           obtain ⟨gg, go_, cg, rfl, hgl, _, hcg⟩ := hG.own.cells (by simp)
           have hc0 : w5.cell? ⟨gg, go_, none⟩ = some (.string ⟨#[97]⟩) := hcg 0 _ rfl
           have HL5 := Lib.hid hL5
           clear hT hL5 hO hG hcg)
        | (go_at_call 16
           with_reducible refine (HW0.out _).mono ?_
           rintro en w6 ⟨rfl, rfl⟩)
        | (go_at_call 16
           with_reducible refine (HW7.out _).mono ?_
           rintro en w6 ⟨rfl, rfl⟩)
        | (go_at_call 16
           with_reducible refine (HW6.out _).mono ?_
           rintro en w6 ⟨rfl, rfl⟩)
        | fail)
      go_ret
      exact ⟨rfl, HL5.out.bel⟩
end Go.Proofs.Ytkagfnocpllcpaa.outboxWaits
