/- Two digests are compared. -/
import Derived.Test.YtnlkjhhocehhaaaRows
import Derived.Test.YtnlkjhhocehhaaaMem
import Derived.ChangeKeysEq
import Derived.Laws.StructEq
namespace Go.Proofs.Ytnlkjhhocehhaaa
set_option linter.unusedVariables false
open Go Go.RowKit Go.Proofs
theorem eqItems_bytes (P : Program) (e : TypeId) (hp : P.plainKey e = true) (hc : P.cellsOf e = 1) (k : IntKind) (hu : P.underlying e = some (.int k)) (d : Nat) (a b : List UInt8) (w : World) :
    ∀ is : List Nat, (∀ j ∈ is, j < a.length ∧ j < b.length) → (Op.eqItems (d + 1) e (P.cellsOf e) (byteVals a).toArray (byteVals b).toArray is).run P w = .ok (is.all fun j => a.getD j 0 == b.getD j 0) w
  | [], _ => by simp [Op.eqItems]
  | j :: is, h => by
    obtain ⟨ha, hb⟩ := h j (by simp)
    have e1 := run_part_plain (w := w) hp (xs := (byteVals a).toArray) (off := j) (v := v8 (a.getD j 0)) (by simpa using byteVals_get a j ha)
    have e2 := run_part_plain (w := w) hp (xs := (byteVals b).toArray) (off := j) (v := v8 (b.getD j 0)) (by simpa using byteVals_get b j hb)
    have e3 := run_equalIn_int (P := P) w d e .u8 k (n8 (a.getD j 0)) (n8 (b.getD j 0)) hu
    have ih := eqItems_bytes P e hp hc k hu d a b w is (fun i hi => h i (by simp [hi]))
    rw [hc] at ih
    simp only [Op.eqItems, Sem.run_bind, hc, Nat.mul_one, e1, e2, Result.andThen_ok]
    rw [show v8 (a.getD j 0) = .int .u8 (n8 (a.getD j 0)) from rfl, show v8 (b.getD j 0) = .int .u8 (n8 (b.getD j 0)) from rfl, e3, n8_beq]
    simp only [Result.andThen_ok, List.all_cons]
    by_cases hab : a.getD j 0 = b.getD j 0
    · simp only [hab, BEq.rfl, Bool.not_true, Bool.false_eq_true, if_false, Bool.true_and]
      exact ih
    · simp only [show (a.getD j 0 == b.getD j 0) = false by simpa using hab, Bool.not_false, if_true, Bool.false_and, Sem.run_pure]
theorem all_getD (a b : List UInt8) (h : a.length = b.length) : ((List.range a.length).all fun j => a.getD j 0 == b.getD j 0) = decide (a = b) := by
  rw [Bool.eq_iff_iff]
  simp only [List.all_eq_true, List.mem_range, beq_iff_eq, decide_eq_true_eq]
  constructor
  · intro hh
    refine List.ext_getElem h (fun i h1 h2 => ?_)
    have := hh i h1
    simpa [List.getD_eq_getElem?_getD, h1, h2] using this
  · intro e _ _; rw [e]
theorem eq25 (a b : List UInt8) (ha : a.length = 32) (hb : b.length = 32) (w : World) :
    (Op.equalIn 10000 25 (.agg (byteVals a).toArray) (.agg (byteVals b).toArray)).run Try.prog w = .ok (decide (a = b)) w := by
  obtain ⟨i, hi⟩ : ∃ i, Try.prog.info? 5 = some i := Option.isSome_iff_exists.1 (by kernel_rfl)
  rw [run_equalIn_array w 9999 _ _ Try.underlying25 hi, eqItems_bytes Try.prog 5 (by kernel_rfl) (by kernel_rfl) .u8 Try.underlying5 9998 a b w (List.range 32) (fun j hj => by simp at hj; omega), ← ha, all_getD a b (by omega)]
end Go.Proofs.Ytnlkjhhocehhaaa
