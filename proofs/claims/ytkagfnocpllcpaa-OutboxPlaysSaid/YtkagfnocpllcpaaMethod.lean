/- What a queue's methods are, looked up through an interface. -/
import Derived.Test.YtkagfnocpllcpaaPush
namespace Go.Proofs.Ytkagfnocpllcpaa
set_option linter.unusedVariables false
open Go Go.RowKit Go.Proofs
theorem und61 (w : World) : (underlying 61).run Try.prog w = .ok (.pointer 56) w := run_underlying Try.underlying61 w
theorem agg56 (w : World) : (isAgg 56).run Try.prog w = .ok false w := by kernel_rfl
theorem wrapnil (a : Addr) (nm : String) (w : World) : (Builtin.ssaWrapNilChk_ #[61] 61 #[.pointer (some a), strVal "", strVal nm]).run Try.prog w = .ok (.pointer (some a)) w := rfl
theorem method_val (b : Nat) (w : World) (v : Value) (hc : w.cell? ⟨b, 0, none⟩ = some v) (name : String) (f : FuncId) (i : TypeInfo) (hi : Try.prog.info? 61 = some i) (m : Go.Method)
    (hm : i.methods.find? (·.name == name) = some m) (hp : m.path = #[]) (hf : m.func = some (f, false)) (n : Nat) :
    (method (n + 1) 61 (.pointer (some ⟨b, 0, none⟩)) name).run Try.prog w = .ok (f, v) w := by
  unfold method
  simp [Sem.run_bind, typeInfo, run_program, Result.andThen_ok, hi, Sem.run_pure, hm, hp, follow, hf, receiverAt, und61, Place.get, wrapnil, asAddr]
  have ha : (isAgg 56).run Try.prog w = .ok false w := agg56 w
  simp [loadVar, ha, go_sem, hc]
theorem method_ptr (b : Nat) (w : World) (name : String) (f : FuncId) (i : TypeInfo) (hi : Try.prog.info? 61 = some i) (m : Go.Method)
    (hm : i.methods.find? (·.name == name) = some m) (hp : m.path = #[]) (hf : m.func = some (f, true)) (n : Nat) :
    (method (n + 1) 61 (.pointer (some ⟨b, 0, none⟩)) name).run Try.prog w = .ok (f, .pointer (some ⟨b, 0, none⟩)) w := by
  unfold method
  simp [Sem.run_bind, typeInfo, run_program, Result.andThen_ok, hi, Sem.run_pure, hm, hp, follow, hf, receiverAt, und61, Place.get]
theorem methOf_parts {name : String} {f : FuncId} {p : Bool} (h : ((Try.prog.info? 61).map fun i => (i.methods.find? (·.name == name)).map fun m => (m.path.isEmpty, m.func)) = some (some (true, some (f, p)))) : ∃ i m, Try.prog.info? 61 = some i ∧ i.methods.find? (·.name == name) = some m ∧ m.path = #[] ∧ m.func = some (f, p) := by
  cases hi : Try.prog.info? 61 with
  | none => rw [hi] at h; cases h
  | some i =>
    rw [hi] at h
    simp only [Option.map_some, Option.some.injEq] at h
    cases hm : i.methods.find? (·.name == name) with
    | none => rw [hm] at h; cases h
    | some m =>
      rw [hm] at h
      simp only [Option.map_some, Option.some.injEq, Prod.mk.injEq] at h
      exact ⟨i, m, rfl, hm, by simpa using h.1, h.2⟩
theorem m_len (b : Nat) (w : World) (v : Value) (hc : w.cell? ⟨b, 0, none⟩ = some v) : (method 231 61 (.pointer (some ⟨b, 0, none⟩)) "Len").run Try.prog w = .ok (89, v) w := by
  obtain ⟨i, m, hi, hm, hp, hf⟩ := methOf_parts (name := "Len") (f := 89) (p := false) (by kernel_rfl)
  exact method_val b w v hc "Len" 89 i hi m hm hp hf 230
theorem m_less (b : Nat) (w : World) (v : Value) (hc : w.cell? ⟨b, 0, none⟩ = some v) : (method 231 61 (.pointer (some ⟨b, 0, none⟩)) "Less").run Try.prog w = .ok (90, v) w := by
  obtain ⟨i, m, hi, hm, hp, hf⟩ := methOf_parts (name := "Less") (f := 90) (p := false) (by kernel_rfl)
  exact method_val b w v hc "Less" 90 i hi m hm hp hf 230
theorem m_swap (b : Nat) (w : World) (v : Value) (hc : w.cell? ⟨b, 0, none⟩ = some v) : (method 231 61 (.pointer (some ⟨b, 0, none⟩)) "Swap").run Try.prog w = .ok (91, v) w := by
  obtain ⟨i, m, hi, hm, hp, hf⟩ := methOf_parts (name := "Swap") (f := 91) (p := false) (by kernel_rfl)
  exact method_val b w v hc "Swap" 91 i hi m hm hp hf 230
theorem m_pop (b : Nat) (w : World) : (method 231 61 (.pointer (some ⟨b, 0, none⟩)) "Pop").run Try.prog w = .ok (92, .pointer (some ⟨b, 0, none⟩)) w := by
  obtain ⟨i, m, hi, hm, hp, hf⟩ := methOf_parts (name := "Pop") (f := 92) (p := true) (by kernel_rfl)
  exact method_ptr b w "Pop" 92 i hi m hm hp hf 230
theorem m_push (b : Nat) (w : World) : (method 231 61 (.pointer (some ⟨b, 0, none⟩)) "Push").run Try.prog w = .ok (93, .pointer (some ⟨b, 0, none⟩)) w := by
  obtain ⟨i, m, hi, hm, hp, hf⟩ := methOf_parts (name := "Push") (f := 93) (p := true) (by kernel_rfl)
  exact method_ptr b w "Push" 93 i hi m hm hp hf 230
end Go.Proofs.Ytkagfnocpllcpaa
