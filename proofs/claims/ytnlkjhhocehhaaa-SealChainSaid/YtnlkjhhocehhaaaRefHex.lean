/- The contract of the reference's Hex. -/
import Derived.Test.YtnlkjhhocehhaaaUnhex
import Derived.Test.YtnlkjhhocehhaaaFrame
import Derived.IntWalk
namespace Go.Proofs.Ytnlkjhhocehhaaa
set_option linter.unusedVariables false
open Go Go.RowKit Go.Proofs
theorem slice_signs (m : Nat) (h : m < 16) (W : World) : (Instr.slice 9 (.string { data := #[48, 49, 50, 51, 52, 53, 54, 55, 56, 57, 97, 98, 99, 100, 101, 102] }) (some (.int .u8 (m : Int))) (some (.int .u8 ((m : Int) + 1))) none).run Try.prog W = .ok (.string ⟨#[signs.getD m 0]⟩) W := by
  rw [run_slice_string W 9 _ .u8 .u8 (m : Int) ((m : Int) + 1) Try.underlying9 (by omega) (by omega) (by show (m : Int) + 1 ≤ 16; omega)]
  have : ∀ m : Fin 16, (ByteArray.extract ⟨#[48, 49, 50, 51, 52, 53, 54, 55, 56, 57, 97, 98, 99, 100, 101, 102]⟩ m.val (m.val + 1)).data = #[signs.getD m.val 0] := by decide +kernel
  have h2 := this ⟨m, h⟩
  congr 2
  rw [Int.toNat_natCast, show ((m : Int) + 1).toNat = m + 1 by omega]
  exact ByteArray.ext h2
set_option maxRecDepth 100000 in
set_option maxHeartbeats 1000000 in
theorem refhex_any (A : Option Addr) (n c : Nat) (l : List UInt8) (w : World) (hn : n = l.length) (hx : Bytes w A l) (hl : l.length ≤ 100000000) :
    Calls Try.prog 32 #[.slice A n c] w fun e w' => e = .returned (.string ⟨(hexOf l).toArray⟩) ∧ Below w.heap.size w w' := by
  subst hn
  go_enter Try.func32, Try.ntmps32
  go_wp2_with fail
  go_loopw [3, 4, 5, 6] (fun c3 c4 _ _ wr => ∃ k : Nat, k ≤ l.length ∧ c4 = .int .i64 k ∧ c3 = .string ⟨(hexOf (l.take k)).toArray⟩ ∧ Below w.heap.size w wr) (fun _ c4 _ _ _ => l.length - (intOf c4).toNat)
  case atStart => exact ⟨0, Nat.zero_le _, rfl, rfl, Below.refl _ _⟩
  case round =>
    obtain ⟨k, hk, rfl, rfl, hF⟩ := hrel
    by_cases hlt : k < l.length
    · obtain ⟨g, o, rfl, hg, hc⟩ := hx.at_ (by omega)
      have e1 : wr.cell? ⟨g, o + k, none⟩ = some (.int .u8 (n8 (l.getD k 0))) := (hF.cell (p := ⟨g, o + k, none⟩) hg).trans (hc k hlt)
      clear hc
      have hgw : g < wr.heap.size := Nat.lt_of_lt_of_le hg hF.size
      obtain ⟨b, hb⟩ : ∃ b, b = l.getD k 0 := ⟨_, rfl⟩
      rw [← hb] at e1
      have Hb := Lib.hid hb
      clear hb
      obtain ⟨p, hp⟩ : ∃ p : Nat, p = b.toNat / 16 := ⟨_, rfl⟩
      obtain ⟨q, hq⟩ : ∃ q : Nat, q = b.toNat % 16 := ⟨_, rfl⟩
      have hub := u8_lt b
      have hp16 : p < 16 := by omega
      have hq16 : q < 16 := by omega
      have d1 : n8 b / 16 = (p : Int) := by unfold n8; omega
      have d2 : n8 b % 16 = (q : Int) := by unfold n8; omega
      have d3 : (n8 b).tdiv 16 = (p : Int) := by unfold n8; rw [Int.tdiv_eq_ediv_of_nonneg (by omega)]; omega
      have d4 : (n8 b).tmod 16 = (q : Int) := by unfold n8; rw [Int.tmod_eq_emod_of_nonneg (by omega)]; omega
      have s1 := slice_signs p hp16
      have s2 := slice_signs q hq16
      have hw1 : IntKind.u8.wrap ((p : Int) + 1) = (p : Int) + 1 := by rw [wrap_u8]; omega
      have hw2 : IntKind.u8.wrap ((q : Int) + 1) = (q : Int) + 1 := by rw [wrap_u8]; omega
      have hhi : hi4 b = signs.getD p 0 := by rw [hp]; rfl
      have hlo : lo4 b = signs.getD q 0 := by rw [hq]; rfl
      rw [← hhi] at s1
      rw [← hlo] at s2
      have hk0 : (0 : Int) ≤ (k : Int) := by omega
      have hkl : (k : Int) < (l.length : Int) := by omega
      clear hp hq hhi hlo
      obtain ⟨S, hS⟩ : ∃ S : ByteArray, S = ⟨(hexOf (l.take k)).toArray⟩ := ⟨_, rfl⟩
      rw [← hS]
      have hSs : S.size = 2 * k := by
        rw [hS]
        have h := length_hexOf (l.take k)
        rw [List.length_take, Nat.min_eq_left hk] at h
        rw [← h]; exact List.size_toArray
      have hkb : k ≤ 100000000 := by omega
      have HS := Lib.hid hS
      clear hS
      go_wp2_with fail
      refine wp_region_quiet_below (by kernel_rfl) (by kernel_rfl) ?_
      repeat (go_big_quiet_step (fail))
      refine wpQuiet_nil ?_
      intro w1 hw1
      have hF1 : Below w.heap.size w w1 := hF.trans ((Re.below hw1).mono hF.size)
      clear hw1 e1 hx
      go_wp2_with fail
      refine wp_region_quiet_below (by kernel_rfl) (by kernel_rfl) ?_
      repeat (go_big_quiet_step (fail))
      refine wpQuiet_nil ?_
      intro w2 hw2
      have hF2 : Below w.heap.size w w2 := hF1.trans ((Re.below hw2).mono hF1.size)
      clear hw2
      go_wp2_with fail
      go_roundw
      case rel =>
        refine ⟨k + 1, by omega, by go_num, ?_, hF2⟩
        congr 1
        rw [HS.out]
        apply ByteArray.ext
        rw [List.take_succ_eq_append_getElem hlt, hexOf_append]
        have hbk : l[k] = b := by rw [Hb.out]; simp [hlt]
        rw [hbk]
        simp [hexOf]
      case measure => simp [intOf]; omega
    · obtain rfl : k = l.length := by omega
      rw [List.take_length]
      go_wp2_with fail
      go_ret
      exact ⟨rfl, hF⟩
end Go.Proofs.Ytnlkjhhocehhaaa
