/- The contract of the reference's turn: a word, turned right a bit at a time, is the word turned left. -/
import Derived.Test.YtnlkjhhocehhaaaMix
namespace Go.Proofs.Ytnlkjhhocehhaaa
set_option linter.unusedVariables false
open Go Go.RowKit Go.Proofs Sha
def turn1 (x : UInt32) : UInt32 := UInt32.ofNat (x.toNat / 2 + x.toNat % 2 * 2147483648)
def turnN (x : UInt32) : Nat → UInt32
  | 0 => x
  | n + 1 => turn1 (turnN x n)
theorem toNat_turn1 (x : UInt32) : (turn1 x).toNat = x.toNat / 2 + x.toNat % 2 * 2147483648 := by
  unfold turn1; rw [toNat_ofNat]; have := u32_lt x; omega
theorem turnN_val (x : UInt32) : ∀ n, n ≤ 31 → (turnN x n).toNat = x.toNat / 2 ^ n + x.toNat % 2 ^ n * 2 ^ (32 - n)
  | 0, _ => by simp [turnN, Nat.mod_one]
  | n + 1, h => by
    rw [turnN, toNat_turn1, turnN_val x n (by omega)]
    have e1 : 2 ^ (32 - n) = 2 * 2 ^ (31 - n) := by rw [← Nat.pow_succ']; congr 1; omega
    have e2 : x.toNat / 2 ^ (n + 1) = x.toNat / 2 ^ n / 2 := by rw [Nat.div_div_eq_div_mul, Nat.pow_succ]
    have e3 : x.toNat % 2 ^ (n + 1) = x.toNat % 2 ^ n + 2 ^ n * (x.toNat / 2 ^ n % 2) := by rw [Nat.pow_succ, Nat.mod_mul]
    have e4 : 2 ^ n * 2 ^ (31 - n) = 2147483648 := by rw [← Nat.pow_add, show n + (31 - n) = 31 by omega]
    rw [e2, e3, e1, show 32 - (n + 1) = 31 - n by omega]
    generalize x.toNat / 2 ^ n = q
    generalize x.toNat % 2 ^ n = r
    have e5 : (r + 2 ^ n * (q % 2)) * 2 ^ (31 - n) = r * 2 ^ (31 - n) + (q % 2) * 2147483648 := by
      rw [Nat.add_mul, ← e4, Nat.mul_comm (2 ^ n) (q % 2), Nat.mul_assoc]
    have e6 : r * (2 * 2 ^ (31 - n)) = 2 * (r * 2 ^ (31 - n)) := by rw [Nat.mul_left_comm]
    rw [e5, e6]
    generalize r * 2 ^ (31 - n) = t
    omega
theorem turnN_rotl (x : UInt32) (n : Nat) (h1 : 1 ≤ n) (h2 : n ≤ 31) : turnN x n = rotl x (32 - n) := by
  apply UInt32.toNat_inj.1
  rw [turnN_val x n h2]
  unfold rotl
  rw [show 32 - (32 - n) = n by omega]
  have hx := u32_lt x
  have e4 : 2 ^ (32 - n) * 2 ^ n = 4294967296 := by rw [← Nat.pow_add, show (32 - n) + n = 32 by omega]
  have e1 : x.toNat * 2 ^ (32 - n) % 4294967296 = (x.toNat % 2 ^ n) <<< (32 - n) := by
    rw [Nat.shiftLeft_eq, ← e4, Nat.mul_comm (2 ^ (32 - n)) (2 ^ n), Nat.mul_mod_mul_right]
  have e2 : x.toNat / 2 ^ n < 2 ^ (32 - n) := by
    rw [Nat.div_lt_iff_lt_mul (Nat.two_pow_pos n), e4]; exact hx
  have hlt : x.toNat * 2 ^ (32 - n) % 4294967296 ||| x.toNat / 2 ^ n < 4294967296 :=
    Nat.or_lt_two_pow (n := 32) (Nat.mod_lt _ (by omega)) (Nat.lt_of_le_of_lt (Nat.div_le_self _ _) hx)
  rw [toNat_ofNat _ hlt, e1, ← Nat.shiftLeft_add_eq_or_of_lt e2, Nat.shiftLeft_eq]
  omega
theorem turn_step (x : UInt32) : ((n32 x).tdiv 2 % 4294967296 + (n32 x).tmod 2 * 2147483648 % 4294967296) % 4294967296 = n32 (turn1 x) := by
  have := u32_lt x
  unfold n32
  rw [toNat_turn1]
  rw [Int.tdiv_eq_ediv_of_nonneg (by omega), Int.tmod_eq_emod_of_nonneg (by omega)]
  omega
set_option maxRecDepth 100000 in
theorem turn_any (x : UInt32) (n : Nat) (h1 : 1 ≤ n) (h2 : n ≤ 31) (w : World) :
    Calls Try.prog 88 #[.int .u32 (n32 x), .int .i64 n] w fun e w' => e = .returned (.int .u32 (n32 (rotl x (32 - n)))) ∧ w = w' := by
  go_enter Try.func88, Try.ntmps88
  go_wp2_with fail
  go_loopw [0, 5] (fun c0 c5 wr => ∃ k : Nat, k ≤ n ∧ c0 = .int .u32 (n32 (turnN x k)) ∧ c5 = .int .i64 k ∧ wr = w) (fun _ c5 _ => n - (intOf c5).toNat)
  case atStart => exact ⟨0, by omega, rfl, rfl, rfl⟩
  case round =>
    obtain ⟨k, hk, rfl, rfl, rfl⟩ := hrel
    by_cases hlt : k < n
    · have hd : decide ((k : Int) < (n : Int)) = true := by simp; omega
      obtain ⟨y, hy⟩ : ∃ y, y = turnN x k := ⟨_, rfl⟩
      rw [← hy]
      have Hy := Lib.hid hy
      clear hy
      go_wp2_with fail
      go_roundw
      case rel =>
        refine ⟨k + 1, by omega, ?_, by go_num, trivial⟩
        rw [turnN, ← Hy.out, ← turn_step]
      case measure => simp [intOf]; omega
    · have hd : decide ((k : Int) < (n : Int)) = false := by simp; omega
      go_wp2_with fail
      go_ret
      exact ⟨by rw [show k = n by omega, turnN_rotl x n h1 h2]; rfl, rfl⟩
end Go.Proofs.Ytnlkjhhocehhaaa
