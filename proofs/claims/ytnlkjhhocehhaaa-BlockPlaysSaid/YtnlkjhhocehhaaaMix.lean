/- The contract of a word's mixing: (digest.mix).of, and of math/bits.RotateLeft32. -/
import Derived.Test.YtnlkjhhocehhaaaBase
import Derived.Test.YtnlkjhhocehhaaaRows
namespace Go.Proofs.Ytnlkjhhocehhaaa
open Go Go.RowKit Go.Proofs Sha
theorem neg_mask (a : Nat) (h1 : 1 ≤ a) (h2 : a ≤ 31) : bits .and .u64 (IntKind.u64.wrap (-(a:Int))) 31 = (((32 - a : Nat)) : Int) := by
  have : ∀ a : Fin 32, 1 ≤ a.val → bits .and .u64 (IntKind.u64.wrap (-(a.val:Int))) 31 = (((32 - a.val : Nat)) : Int) := by decide
  exact this ⟨a, by omega⟩ h1
theorem rot_any (x : UInt32) (a : Nat) (h1 : 1 ≤ a) (h2 : a ≤ 31) (w : World) :
    Calls Try.prog 99 #[.int .u32 (n32 x), .int .i64 (-(a:Int))] w fun e w' => e = .returned (.int .u32 (n32 (rotl x (32-a)))) ∧ w = w' := by
  have hs := neg_mask a h1 h2
  have hm : min (32 - a) 32 = 32 - a := by omega
  have hv := rotl_val x (32 - a)
  go_enter Try.func99, Try.ntmps99
  go_wp2
  go_ret
  exact ⟨rfl, rfl⟩
theorem mix3_any (x : UInt32) (a b c : Nat) (h1 : 1 ≤ a) (h2 : a ≤ 31) (h3 : 1 ≤ b) (h4 : b ≤ 31) (h5 : 1 ≤ c) (h6 : c ≤ 31) (w : World) :
    Calls Try.prog 89 #[.agg #[.int .i64 a, .int .i64 b, .int .i64 c, .int .i64 0], .int .u32 (n32 x)] w fun e w' => e = .returned (.int .u32 (n32 (mix3 a b c x))) ∧ Below w.heap.size w w' := by
  go_enter Try.func89, Try.ntmps89
  go_wp2_with fail
  refine wp_region_quiet_below (by kernel_rfl) (by kernel_rfl) ?_
  repeat (go_big_quiet_step ((go_at_call 99; with_reducible refine regrown_same (rot_any _ _ ?_ ?_ _) <;> omega)))
  refine wpQuiet_nil ?_
  intro w1 hw1
  have hb1 := Re.below hw1
  clear hw1
  have c3 : w1.cell? ⟨w.heap.size, 3, none⟩ = some (.int .i64 0) := (hb1.cell (p := ⟨w.heap.size, 3, none⟩) (by simp)).trans (by simp)
  have c2 : w1.cell? ⟨w.heap.size, 2, none⟩ = some (.int .i64 c) := (hb1.cell (p := ⟨w.heap.size, 2, none⟩) (by simp)).trans (by simp)
  go_wp2_with (go_at_call 99; refine (rot_any _ _ h5 h6 _).mono ?_; rintro e w' ⟨rfl, rfl⟩)
  go_ret
  exact ⟨rfl, ((Below.refl _ _).alloc (Nat.le_refl _) _).trans (hb1.mono (by simp))⟩
theorem mix2_any (x : UInt32) (a b s : Nat) (h1 : 1 ≤ a) (h2 : a ≤ 31) (h3 : 1 ≤ b) (h4 : b ≤ 31) (h5 : 1 ≤ s) (h6 : s ≤ 31) (w : World) :
    Calls Try.prog 89 #[.agg #[.int .i64 a, .int .i64 b, .int .i64 0, .int .i64 s], .int .u32 (n32 x)] w fun e w' => e = .returned (.int .u32 (n32 (mix2 a b s x))) ∧ Below w.heap.size w w' := by
  have hm : min s 32 = s := by omega
  have hv := shr_val x s
  go_enter Try.func89, Try.ntmps89
  go_wp2_with fail
  refine wp_region_quiet_below (by kernel_rfl) (by kernel_rfl) ?_
  repeat (go_big_quiet_step ((go_at_call 99; with_reducible refine regrown_same (rot_any _ _ ?_ ?_ _) <;> omega)))
  refine wpQuiet_nil ?_
  intro w1 hw1
  have hb1 := Re.below hw1
  clear hw1
  have c3 : w1.cell? ⟨w.heap.size, 3, none⟩ = some (.int .i64 s) := (hb1.cell (p := ⟨w.heap.size, 3, none⟩) (by simp)).trans (by simp)
  go_wp2_with fail
  go_ret
  exact ⟨rfl, ((Below.refl _ _).alloc (Nat.le_refl _) _).trans (hb1.mono (by simp))⟩
theorem mixLow (x : UInt32) (w : World) : Calls Try.prog 89 #[.agg #[.int .i64 7, .int .i64 18, .int .i64 0, .int .i64 3], .int .u32 (n32 x)] w fun e w' => e = .returned (.int .u32 (n32 (mix2 7 18 3 x))) ∧ Below w.heap.size w w' := mix2_any x 7 18 3 (by omega) (by omega) (by omega) (by omega) (by omega) (by omega) w
theorem mixHigh (x : UInt32) (w : World) : Calls Try.prog 89 #[.agg #[.int .i64 17, .int .i64 19, .int .i64 0, .int .i64 10], .int .u32 (n32 x)] w fun e w' => e = .returned (.int .u32 (n32 (mix2 17 19 10 x))) ∧ Below w.heap.size w w' := mix2_any x 17 19 10 (by omega) (by omega) (by omega) (by omega) (by omega) (by omega) w
theorem mixBig (x : UInt32) (w : World) : Calls Try.prog 89 #[.agg #[.int .i64 6, .int .i64 11, .int .i64 25, .int .i64 0], .int .u32 (n32 x)] w fun e w' => e = .returned (.int .u32 (n32 (mix3 6 11 25 x))) ∧ Below w.heap.size w w' := mix3_any x 6 11 25 (by omega) (by omega) (by omega) (by omega) (by omega) (by omega) w
theorem mixSmall (x : UInt32) (w : World) : Calls Try.prog 89 #[.agg #[.int .i64 2, .int .i64 13, .int .i64 22, .int .i64 0], .int .u32 (n32 x)] w fun e w' => e = .returned (.int .u32 (n32 (mix3 2 13 22 x))) ∧ Below w.heap.size w w' := mix3_any x 2 13 22 (by omega) (by omega) (by omega) (by omega) (by omega) (by omega) w
end Go.Proofs.Ytnlkjhhocehhaaa
