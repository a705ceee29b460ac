/- The law BlockNil: a disk that isn't there is broken. For every input. -/
import Derived.Test.YtnlkjhhocehhaaaOpen
import Derived.Test.YtnlkjhhocehhaaaNils
namespace Go.Proofs.Ytnlkjhhocehhaaa.blockNil
open Go Go.RowKit Go.Proofs Go.Proofs.Ytnlkjhhocehhaaa Sha
set_option linter.unusedVariables false
set_option maxRecDepth 100000 in
set_option maxHeartbeats 4000000 in
theorem walk (s : St) (w : World) (hI : StI w s) :
    Calls Try.prog 19 #[.agg (stC s).toArray] w fun e w' => e = .returned (.bool true) ∧ Below w.heap.size w w' := by
  obtain ⟨a0, a1, a2, a3, A, c, ls⟩ := s
  have HI := Lib.hid hI
  clear hI
  unfold stC
  simp only
  obtain ⟨m, hm⟩ : ∃ m, m = ls.length := ⟨_, rfl⟩
  have HF : Hid (∀ W, Below w.heap.size w W → Calls Try.prog 51 #[.slice A m c] W fun e W' => ∃ A1 n1 c1 v2, e = .returned (.tuple #[.slice A1 n1 c1, v2]) ∧ Below W.heap.size W W') := Lib.hid (fun W hW => by
    rw [hm]
    refine (few_any A ls.length c ls HI.out.1 (fun e he => ?_) hW).mono ?_
    · obtain ⟨h1, h2, h3, -, -⟩ := (HI.out.2 e he).sl_eq
      exact ⟨h2, h3⟩
    · rintro e W' ⟨v1, v2, h1, h2, -, -, -, h3⟩
      obtain ⟨A1, c1, hv, -, -⟩ := WsO.shape h2
      subst hv
      exact ⟨A1, _, c1, v2, h1, h3⟩)
  rw [← hm]
  clear hm
  have hB0 : Blk (w.alloc (.cells #[.int .i64 a0, .int .i64 a1, .int .i64 a2, .int .i64 a3, .slice A m c] 82)) w.heap.size 82 #[.int .i64 a0, .int .i64 a1, .int .i64 a2, .int .i64 a3, .slice A m c] := Blk.new _ _ _
  have HB0 := Lib.hid hB0
  have HBA : Hid (Below w.heap.size w (w.alloc (.cells #[.int .i64 a0, .int .i64 a1, .int .i64 a2, .int .i64 a3, .slice A m c] 82))) := Lib.hid ((Below.refl _ w).alloc (Nat.le_refl _) _)
  clear hB0
  go_enter Try.func19, Try.ntmps19
  go_wp2_with (first
    | (go_at_call 44
       refine (lives_any _).mono ?_
       rintro e w1 ⟨rfl, hb1⟩
       have hB1 := HB0.out.below hb1 HB0.out.lt
       have h4 : w1.cell? ⟨w.heap.size, 4, none⟩ = some (.slice A m c) := hB1.cell 4
       have HB1 := Lib.hid hB1
       have HW1 := Lib.hid (HBA.out.trans (hb1.mono HBA.out.size))
       clear hB1 hb1)
    | (go_at_call 51
       refine (HF.out _ HW1.out).mono ?_
       rintro e w2 ⟨A1, n1, c1, v2, rfl, hb2⟩
       have hB2 := HB1.out.below hb2 HB1.out.lt
       have h1 : w2.cell? ⟨w.heap.size, 1, none⟩ = some (.int .i64 a1) := hB2.cell 1
       have h2 : w2.cell? ⟨w.heap.size, 2, none⟩ = some (.int .i64 a2) := hB2.cell 2
       have h3 : w2.cell? ⟨w.heap.size, 3, none⟩ = some (.int .i64 a3) := hB2.cell 3
       have HW2 := Lib.hid (HW1.out.trans (hb2.mono HW1.out.size))
       clear hB2 hb2)
    | (go_at_call 52
       refine (write_nil _ _).mono ?_
       rintro e w3 ⟨rfl, rfl⟩)
    | (go_at_call 55
       refine (part_nil _ _ _ _ _).mono ?_
       rintro e w3 ⟨rfl, rfl⟩)
    | (go_at_call 57
       refine (up_nil _).mono ?_
       rintro e w3 ⟨rfl, rfl⟩)
    | (go_at_call 58
       refine (compact_nil _ _ _).mono ?_
       rintro e w3 ⟨rfl, rfl⟩)
    | (go_at_call 54
       refine (read_nil _ _).mono ?_
       rintro e w3 ⟨rfl, rfl⟩)
    | (go_at_call 53
       refine (size_nil _ _).mono ?_
       rintro e w3 ⟨rfl, rfl⟩)
    | (go_at_call 65
       refine (rooms_nil _).mono ?_
       rintro e w3 ⟨rfl, rfl⟩)
    | (go_at_call 56
       refine (broken_nil _).mono ?_
       rintro e w3 ⟨rfl, rfl⟩)
    | fail)
  go_ret
  exact ⟨rfl, HW2.out⟩
end Go.Proofs.Ytnlkjhhocehhaaa.blockNil
