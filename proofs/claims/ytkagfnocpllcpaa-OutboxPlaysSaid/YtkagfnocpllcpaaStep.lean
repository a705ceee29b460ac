/- What a law's walk over a script knows at a step: the box, the script, the step's own copy. -/
import Derived.Test.YtkagfnocpllcpaaSame
namespace Go.Proofs.Ytkagfnocpllcpaa
set_option linter.unusedVariables false
open Go Go.RowKit Go.Proofs
structure Sd (w W : World) (b : Nat) (v : Value) (q : List E) (bn : Int) (vs : Value) (l : List Op) (go : Nat) (o : Op) : Prop where
  lb : Lb w W b v q bn
  ops : OpsO W vs l
  blk : Blk W go 23 (opCells o).toArray
section
variable {w W W' : World} {b go : Nat} {v vs : Value} {q : List E} {bn : Int} {l : List Op} {o : Op}
theorem Sd.keep (h : Sd w W b v q bn vs l go o) (hb : Below W.heap.size W W') : Sd w W' b v q bn vs l go o := ⟨h.lb.keep hb, h.ops.keep hb, h.blk.below hb h.blk.lt⟩
theorem foot_ops (h : Lb w W b v q bn) (ho : OpsO W vs l) : ∀ k, foot b v k → ¬ rowOf vs k := fun k hk hk2 => by
  rcases hk with rfl | hk
  · exact Own.blk_ne ho h.box.blk (by decide) hk2
  · exact own_disj h.box.ents ho (by decide) k hk hk2
theorem foot_blk {t : TypeId} {cs : Array Value} (h : Lb w W b v q bn) (ho : Blk W go t cs) (h1 : t ≠ 58) (h2 : t ≠ 47) : ¬ foot b v go := fun hk => by
  rcases hk with hk | hk
  · exact ho.ne_ h.box.blk h1 hk
  · exact Own.blk_ne h.box.ents ho (Ne.symm h2) hk
theorem foot_rows {vx : Value} {r : List E} (h : Lb w W b v q bn) (ho : EntsR W vx r) : ∀ k, foot b v k → ¬ rowOf vx k := fun k hk hk2 => by
  rcases hk with rfl | hk
  · exact Own.blk_ne ho h.box.blk (by decide) hk2
  · exact own_disj h.box.ents ho (by decide) k hk hk2
theorem Sd.to {q' : List E} {bn' : Int} (h : Sd w W b v q bn vs l go o) (hT : BoxTo b v bn' W q' W') : ∃ v', Sd w W' b v' q' bn' vs l go o ∧ Fr (foot b v) W W' := by
  obtain ⟨v', h1, hF⟩ := h.lb.to hT
  exact ⟨v', ⟨h1, Own.fr h.ops hF (foot_ops h.lb h.ops), h.blk.fr hF (foot_blk h.lb h.blk (by decide) (by decide))⟩, hF⟩
theorem Sd.rows {vx : Value} {r : List E} (h : Sd w W b v q bn vs l go o) (hF : Fr (foot b v) W W') (hr : EntsR W vx r) : EntsR W' vx r := Own.fr hr hF (foot_rows h.lb hr)
end
/-- What Put does. -/
theorem put_cases (q : List E) (bn : Int) (id body : ByteArray) (now : Int) (h : Inv q bn) (hn : bn ≤ now) :
    (∃ e : Int, putF q bn id body now = (e, q, bn) ∧ (e == 0) = false ∧ (e != 0) = true) ∨
    (putF q bn id body now = (0, Hp.pushL ltE q ⟨id, body, now, 0, now⟩, now) ∧ Inv (Hp.pushL ltE q ⟨id, body, now, 0, now⟩) now ∧ (Hp.pushL ltE q ⟨id, body, now, 0, now⟩).length = q.length + 1 ∧ q.length < 5 ∧ id ∉ q.map E.id ∧
      ∀ body' : ByteArray, putF (Hp.pushL ltE q ⟨id, body, now, 0, now⟩) now id body' now = (6, Hp.pushL ltE q ⟨id, body, now, 0, now⟩, now)) := by
  unfold putF
  by_cases h1 : id.size = 0 ∨ 64 < id.size
  · simp only [if_pos h1]; exact .inl ⟨1, rfl, rfl, rfl⟩
  · simp only [if_neg h1]
    by_cases h2 : clockB bn now = false
    · simp only [if_pos h2]; exact .inl ⟨9, rfl, rfl, rfl⟩
    · simp only [if_neg h2]
      by_cases h3 : 0 ≤ findI q id
      · simp only [if_pos h3]; exact .inl ⟨6, rfl, rfl, rfl⟩
      · simp only [if_neg h3]
        by_cases h4 : q.length = 5
        · simp only [if_pos h4]; exact .inl ⟨7, rfl, rfl, rfl⟩
        · simp only [if_neg h4]
          have h5 := h.len
          have hid : id ∉ q.map E.id := findFrom_neg id q 0 (by unfold findI at h3; exact h3)
          obtain ⟨i1, i2⟩ := h.push hn ⟨id, body, now, 0, now⟩ hid (by omega) ⟨Int.le_refl 0, (by show (0 : Int) ≤ 6; decide), Int.le_refl _⟩
          refine .inr ⟨trivial, i1, by rw [i2.length_eq]; rfl, by omega, hid, fun body' => ?_⟩
          have hc : ¬ clockB now now = false := by
            have h6 : clockB bn now = true := by simpa using h2
            unfold clockB at h6 ⊢
            simp only [Bool.and_eq_true, decide_eq_true_eq] at h6
            simp [h6.2]
          rw [if_neg hc, if_pos]
          exact findFrom_pos id _ 0 ((i2.map E.id).mem_iff.2 (by simp))
theorem take_cases (q : List E) (bn : Int) (id : ByteArray) (h : Inv q bn) :
    takeF q id = (5, q) ∨ (takeF q id = (0, (takeF q id).2) ∧ Inv (takeF q id).2 bn ∧ (takeF q id).2.length + 1 = q.length) := by
  unfold takeF
  by_cases h1 : findI q id < 0
  · simp only [if_pos h1]; exact .inl trivial
  · simp only [if_neg h1]
    obtain ⟨a1, a2⟩ := find_at (show 0 ≤ findI q id by omega)
    obtain ⟨i1, i2⟩ := h.take _ a1
    exact .inr ⟨trivial, i1, by have := i2.length_eq; simpa using this⟩
theorem try_early (bn : Int) (q : List E) : tryF bn (bn - 1) q = ([], [], 9, q, bn) := by
  unfold tryF
  rw [if_pos]
  unfold clockB
  simp only [Bool.and_eq_false_iff, decide_eq_false_iff_not]
  left; omega
end Go.Proofs.Ytkagfnocpllcpaa
