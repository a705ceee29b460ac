/- What is true of a box's entries in their row. -/
import Derived.Test.YtkagfnocpllcpaaStep
namespace Go.Proofs.Ytkagfnocpllcpaa
set_option linter.unusedVariables false
open Go
theorem getD_mem {L : List E} {k : Nat} (h : k < L.length) : L.getD k default ∈ L := by simp [h]
theorem row_at {q : List E} {bn t : Int} (h : Inv q bn) (hbt : bn ≤ t) (k : Nat) (hk : k < (isortL q).length) : 0 ≤ ((isortL q).getD k default).tries ∧ ((isortL q).getD k default).tries ≤ 6 ∧ ((isortL q).getD k default).put ≤ t := by
  have := h.all _ ((isortL_perm q).mem_iff.1 (getD_mem hk))
  omega
theorem row_next {q : List E} {bn : Int} (h : Inv q bn) (k : Nat) (hk : k + 1 < (isortL q).length) : ((isortL q).getD k default).due ≤ ((isortL q).getD (k + 1) default).due ∧ (((isortL q).getD k default).id.toList == ((isortL q).getD (k + 1) default).id.toList) = false := by
  constructor
  · have h1 := srt_getD h.sorted k (k + 1) (by omega) hk
    rw [Bool.eq_false_iff, ne_eq, ltE_iff] at h1
    rcases Int.lt_or_le ((isortL q).getD (k + 1) default).due ((isortL q).getD k default).due with h2 | h2
    · exact absurd (.inl h2) h1
    · exact h2
  · rw [Bool.eq_false_iff, ne_eq, toList_beq]
    intro e
    have hn := (((isortL_perm q).map E.id).nodup_iff).2 h.nod
    have h1 := List.pairwise_iff_getElem.1 hn k (k + 1) (by rw [List.length_map]; omega) (by rw [List.length_map]; exact hk) (by omega)
    apply h1
    rw [List.getElem_map, List.getElem_map]
    have e1 : (isortL q).getD k default = (isortL q)[k] := by simp [show k < (isortL q).length by omega]
    have e2 : (isortL q).getD (k + 1) default = (isortL q)[k + 1] := by simp [hk]
    rw [← e1, ← e2]; exact e
theorem row_late' {q : List E} {t : Int} (h : ∀ x ∈ q, t < x.due) (k : Nat) (hk : k < (isortL q).length) : t < ((isortL q).getD k default).due := h _ ((isortL_perm q).mem_iff.1 (getD_mem hk))
theorem try_cases (q : List E) (bn now : Int) (h : Inv q bn) (hb : bn ≤ now) (hn : now ≤ 5000) :
    tryF bn now q = (outL now (dueL now q).1, goneL (dueL now q).1, 0, (tryF bn now q).2.2.2.1, now) ∧ Inv (tryF bn now q).2.2.2.1 now ∧ (tryF bn now q).2.2.2.1.length + (goneL (dueL now q).1).length = q.length ∧ ∀ x ∈ (tryF bn now q).2.2.2.1, now < x.due := by
  have hc : ¬ clockB bn now = false := by
    unfold clockB
    simp only [Bool.and_eq_false_iff, decide_eq_false_iff_not]
    omega
  have hp : tryF bn now q = (outL now (dueL now q).1, goneL (dueL now q).1, 0, pushAll (dueL now q).2 (outL now (dueL now q).1), now) := by unfold tryF; rw [if_neg hc]
  have hT := h.try_ hb
  rw [hp]
  refine ⟨rfl, hT.inv, ?_, hT.later⟩
  have h1 := hT.perm.length_eq
  have h2 := hT.old.length_eq
  have h3 := goneL_outL_len now (dueL now q).1
  rw [List.length_append] at h1 h2
  show (pushAll (dueL now q).2 (outL now (dueL now q).1)).length + _ = _
  omega
theorem tries_ok {q : List E} {bn : Int} (h : Inv q bn) (now : Int) : ∀ x ∈ (dueL now q).1, 0 ≤ x.tries ∧ x.tries ≤ 6 := fun x hx =>
  h.tries x ((due_laws now q.length q (Nat.le_refl _) h.nod h.heap).1.mem_iff.1 (List.mem_append.2 (.inl hx)))
end Go.Proofs.Ytkagfnocpllcpaa
