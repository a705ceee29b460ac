/- A step of the law OutboxPlays: the box and the document's box answer the same. -/
import Derived.Test.YtkagfnocpllcpaaRefTry
import Derived.Test.YtkagfnocpllcpaaRowFacts
import Derived.Deep.RegionHeld3
namespace Go.Proofs.Ytkagfnocpllcpaa
set_option linter.unusedVariables false
open Go Go.RowKit Go.Proofs
/-- The box and the document's, side by side. -/
structure Pl (w W : World) (b : Nat) (v : Value) (q : List E) (bn : Int) (br : Nat) (vr : Value) (L : List E) (rn : Int) : Prop where
  lb : Lb w W b v q bn
  ref : BoxR W br vr L rn
  rge : w.heap.size ≤ br
  rrow : ∀ k, rowOf vr k → w.heap.size ≤ k
section
variable {w W W' : World} {b br : Nat} {v vr : Value} {q L : List E} {bn rn : Int}
theorem Pl.keep (h : Pl w W b v q bn br vr L rn) (hb : Below W.heap.size W W') : Pl w W' b v q bn br vr L rn := ⟨h.lb.keep hb, h.ref.keep hb, h.rge, h.rrow⟩
theorem Pl.own {q' : List E} {bn' : Int} (h : Pl w W b v q bn br vr L rn) (hT : BoxTo b v bn' W q' W') : ∃ v', Pl w W' b v' q' bn' br vr L rn ∧ Fr (foot b v) W W' := by
  obtain ⟨v', h1, hF⟩ := h.lb.to hT
  exact ⟨v', ⟨h1, ⟨h.ref.blk.fr hF (foot_blk h.lb h.ref.blk (by decide) (by decide)), Own.fr h.ref.ents hF (foot_rows h.lb h.ref.ents)⟩, h.rge, h.rrow⟩, hF⟩
theorem Pl.doc {L' : List E} {rn' : Int} (h : Pl w W b v q bn br vr L rn) (hT : RTo br vr rn' W L' W') : ∃ vr', Pl w W' b v q bn br vr' L' rn' ∧ Fr (one br) W W' := by
  obtain ⟨vr', h1, hF, hR⟩ := hT
  have s := h.lb.bel.size
  have hbx : BoxA W' b v q bn := ⟨h.lb.box.blk.fr hF (h.lb.box.blk.ne_ h.ref.blk (by decide)), Own.fr h.lb.box.ents hF (fun k hk => by unfold one at hk; subst hk; exact Own.blk_ne h.lb.box.ents h.ref.blk (by decide))⟩
  exact ⟨vr', ⟨⟨hbx, h.lb.bge, h.lb.row, h.lb.bel.trans (hF.below s (fun k hk => by unfold one at hk; subst hk; exact h.rge))⟩, h1, h.rge, fun k hk => (hR k hk).elim (h.rrow k) (fun hh => by omega)⟩, hF⟩
end
/-- What the laws ask of a box's entries. -/
structure Fine (q : List E) (bn : Int) : Prop where
  inv : Inv q bn
  bn0 : 0 ≤ bn
  bn1 : bn ≤ 1099511627776
  ids : IdsOk q
theorem Fine.row {q : List E} {bn : Int} (h : Fine q bn) : IdsOk (isortL q) := fun y hy => h.ids y ((isortL_perm q).mem_iff.1 hy)
theorem isort_len (q : List E) : (isortL q).length = q.length := (isortL_perm q).length_eq
theorem put_same {q : List E} {bn : Int} (h : Fine q bn) (id body : ByteArray) (now : Int) (hid : id.size ≤ 100) :
    ∃ (e : Int) (q' : List E) (bn' : Int), putF q bn id body now = (e, q', bn') ∧ putR (isortL q) bn id body now = (e, isortL q', bn') ∧ Fine q' bn' := by
  unfold putF putR
  by_cases h1 : id.size = 0 ∨ 64 < id.size
  · simp only [if_pos h1]; exact ⟨1, q, bn, rfl, rfl, h⟩
  · simp only [if_neg h1]
    by_cases h2 : clockB bn now = false
    · simp only [if_pos h2]; exact ⟨9, q, bn, rfl, rfl, h⟩
    · simp only [if_neg h2]
      have hb : bn ≤ now ∧ now ≤ 1099511627776 := by
        unfold clockB at h2
        simpa using h2
      have hff := find_perm (isortL_perm q) id
      by_cases h3 : 0 ≤ findI q id
      · rw [if_pos h3, if_pos (show 0 ≤ findI (isortL q) id by omega)]; exact ⟨6, q, bn, rfl, rfl, h⟩
      · rw [if_neg h3, if_neg (show ¬ 0 ≤ findI (isortL q) id by omega)]
        have hl := h.inv.len
        by_cases h4 : q.length = 5
        · rw [if_pos h4, if_pos (show 5 ≤ (isortL q).length by rw [isort_len]; omega)]; exact ⟨7, q, bn, rfl, rfl, h⟩
        · rw [if_neg h4, if_neg (show ¬ 5 ≤ (isortL q).length by rw [isort_len]; omega)]
          have hidn : id ∉ q.map E.id := findFrom_neg id q 0 (by unfold findI at h3; exact h3)
          have hx2 : (0 : Int) ≤ (⟨id, body, now, 0, now⟩ : E).tries ∧ (⟨id, body, now, 0, now⟩ : E).tries ≤ 6 ∧ (⟨id, body, now, 0, now⟩ : E).put ≤ now := ⟨Int.le_refl 0, (by show (0 : Int) ≤ 6; decide), Int.le_refl _⟩
          obtain ⟨i1, i2⟩ := h.inv.push hb.1 ⟨id, body, now, 0, now⟩ hidn (by omega) hx2
          refine ⟨0, _, now, rfl, by rw [row_put h.inv hb.1 _ hidn (by omega) hx2], i1, by have := h.bn0; omega, hb.2, fun y hy => ?_⟩
          rcases List.mem_cons.1 (i2.mem_iff.1 hy) with rfl | hy
          · exact hid
          · exact h.ids y hy
theorem take_same {q : List E} {bn : Int} (h : Fine q bn) (id : ByteArray) :
    ∃ (e : Int) (q' : List E), takeF q id = (e, q') ∧ takeR (isortL q) id = (e, isortL q') ∧ Fine q' bn := by
  unfold takeF takeR
  have hff := find_perm (isortL_perm q) id
  by_cases h1 : findI q id < 0
  · rw [if_pos h1, if_pos (show findI (isortL q) id < 0 by omega)]; exact ⟨5, q, rfl, rfl, h⟩
  · rw [if_neg h1, if_neg (show ¬ findI (isortL q) id < 0 by omega)]
    obtain ⟨a1, a2⟩ := find_at (show 0 ≤ findI q id by omega)
    obtain ⟨i1, i2⟩ := h.inv.take _ a1
    obtain ⟨r1, r2⟩ := row_take h.inv id (by omega)
    exact ⟨0, _, rfl, by rw [r2], i1, h.bn0, h.bn1, fun y hy => h.ids y (i2.mem_iff.1 (List.mem_cons_of_mem _ hy))⟩
theorem row_split {q : List E} {bn : Int} (h : Inv q bn) (now : Int) : isortL q = (dueL now q).1 ++ isortL (dueL now q).2 := by
  obtain ⟨h1, h2, h3, h4, h5, h6⟩ := due_laws now q.length q (Nat.le_refl _) h.nod h.heap
  rw [show dueF now q.length q = dueL now q from rfl] at h1 h2 h3 h4 h5 h6
  have hn : (((dueL now q).1 ++ (dueL now q).2).map E.id).Nodup := ((h1.map E.id).nodup_iff).2 h.nod
  have hnr : ((dueL now q).2.map E.id).Nodup := hn.sublist ((List.sublist_append_right _ _).map E.id)
  have hsr : Srt (isortL (dueL now q).2) := isortL_srt (ord_of hnr) _ (allIn _)
  exact (row_one h ((List.Perm.append_left _ (isortL_perm _)).trans h1) (List.pairwise_append.2 ⟨h5, hsr, fun x hx y hy => h6 x hx y ((isortL_perm _).mem_iff.1 hy)⟩)).symm
theorem try_same {q : List E} {bn : Int} (h : Fine q bn) (now : Int) :
    ∃ (os : List E) (gs : List ByteArray) (e : Int) (q' : List E) (bn' : Int), tryF bn now q = (os, gs, e, q', bn') ∧ tryR bn now (dueL now q).1 (isortL (dueL now q).2) = (os, gs, e, isortL q', bn') ∧ Fine q' bn' ∧ os.length ≤ 5 ∧ gs.length ≤ 5 := by
  have hdl := dueL_len now q
  have hl := h.inv.len
  unfold tryF tryR
  by_cases h2 : clockB bn now = false
  · rw [if_pos h2, if_pos h2, ← row_split h.inv now]
    exact ⟨[], [], 9, q, bn, rfl, rfl, h, by simp, by simp⟩
  · rw [if_neg h2, if_neg h2]
    have hb : bn ≤ now ∧ now ≤ 1099511627776 := by
      unfold clockB at h2
      simpa using h2
    have hT := h.inv.try_ hb.1
    have h3 := row_try h.inv hT
    refine ⟨_, _, 0, _, now, rfl, by rw [h3.2], ⟨hT.inv, by have := h.bn0; omega, hb.2, fun y hy => ?_⟩, by have := outL_len now (dueL now q).1; omega, by have := goneL_len (dueL now q).1; omega⟩
    rcases List.mem_append.1 (hT.perm.mem_iff.1 hy) with hy | hy
    · obtain ⟨x, hx, _, rfl⟩ := outL_mem now _ y hy
      exact h.ids x (hT.old.mem_iff.1 (List.mem_append.2 (.inl hx)))
    · exact h.ids y (hT.old.mem_iff.1 (List.mem_append.2 (.inr hy)))
end Go.Proofs.Ytkagfnocpllcpaa
