/- The law OutboxNil: a box that is not there sends nothing. For every input. -/
import Derived.Test.YtkagfnocpllcpaaLives
import Derived.Test.YtkagfnocpllcpaaFrame
namespace Go.Proofs.Ytkagfnocpllcpaa
set_option linter.unusedVariables false
open Go Go.RowKit Go.Proofs
theorem all_nil (w : World) : Calls Try.prog 14 #[.pointer none] w fun e w' => e = .returned (.slice none 0 0) ∧ w = w' := by
  go_enter Try.func14, Try.ntmps14
  go_wp2_with fail
  go_ret
  exact ⟨rfl, rfl⟩
end Go.Proofs.Ytkagfnocpllcpaa
namespace Go.Proofs.Ytkagfnocpllcpaa.outboxNil
open Go Go.RowKit Go.Proofs Go.Proofs.Ytkagfnocpllcpaa
set_option linter.unusedVariables false
set_option maxRecDepth 100000 in
set_option maxHeartbeats 2000000 in
theorem walk (a0 a1 a2 : Int) (a3 a4 : ByteArray) (w : World) :
    Calls Try.prog 3 #[.agg #[.int .i64 a0, .int .i64 a1, .int .i64 a2, .string a3, .string a4]] w fun e w' => e = .returned (.bool true) ∧ Below w.heap.size w w' := by
  have HW0 := Lib.hid (show ∀ w, Calls Try.prog 16 #[.int .i64 (-1)] w fun e w' => e = .returned (.int .i64 1) ∧ w = w' from fun w => wait_any (-1) w)
  have HW9 := Lib.hid (show ∀ w, Calls Try.prog 16 #[.int .i64 9] w fun e w' => e = .returned (.int .i64 64) ∧ w = w' from fun w => wait_any 9 w)
  go_enter Try.func3, Try.ntmps3
  have hB0 : Blk (w.alloc (.cells #[.int .i64 a0, .int .i64 a1, .int .i64 a2, .string a3, .string a4] 23)) w.heap.size 23 #[.int .i64 a0, .int .i64 a1, .int .i64 a2, .string a3, .string a4] := Blk.new _ _ _
  have HB0 := Lib.hid hB0
  clear hB0
  go_wp2_with (first
    | (go_at_call 9
       refine (lives_any _).mono ?_
       rintro e w1 ⟨rfl, hb1⟩
       have hB1 := HB0.out.below hb1 HB0.out.lt
       have h1 : w1.cell? ⟨w.heap.size, 1, none⟩ = some (.int .i64 a1) := hB1.cell 1
       have h3 : w1.cell? ⟨w.heap.size, 3, none⟩ = some (.string a3) := hB1.cell 3
       have h4 : w1.cell? ⟨w.heap.size, 4, none⟩ = some (.string a4) := hB1.cell 4
       clear hB1)
    | (go_at_call 10
       refine (try_nil _ _).mono ?_
       rintro e w2 ⟨rfl, rfl⟩)
    | (go_at_call 11
       refine (put_nil _ _ _ _).mono ?_
       rintro e w2 ⟨rfl, rfl⟩)
    | (go_at_call 12
       refine (take_nil _ _).mono ?_
       rintro e w2 ⟨rfl, rfl⟩)
    | (go_at_call 13
       refine (next_nil _).mono ?_
       rintro e w2 ⟨rfl, rfl⟩)
    | (go_at_call 14
       refine (all_nil _).mono ?_
       rintro e w2 ⟨rfl, rfl⟩)
    | (go_at_call 15
       refine (now_nil _).mono ?_
       rintro e w2 ⟨rfl, rfl⟩)
    | (go_at_call 16
       with_reducible refine (HW0.out _).mono ?_
       rintro e w2 ⟨rfl, rfl⟩)
    | (go_at_call 16
       with_reducible refine (HW9.out _).mono ?_
       rintro e w2 ⟨rfl, rfl⟩)
    | fail)
  go_ret
  exact ⟨rfl, ((Below.refl _ w).alloc (Nat.le_refl _) _).trans (hb1.mono (by simp))⟩
end Go.Proofs.Ytkagfnocpllcpaa.outboxNil
