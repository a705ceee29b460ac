/- The document's box, plain: a row in order; it is the box's entries sorted. No program in sight. -/
import Derived.Test.YtkagfnocpllcpaaBox
namespace Go.Proofs.Ytkagfnocpllcpaa
set_option linter.unusedVariables false
open Go
def insK (x : E) (L : List E) : Nat → Nat
  | 0 => 0
  | k + 1 => if ltE x (L.getD k default) then insK x L k else k + 1
def insL (L : List E) (x : E) : List E := L.take (insK x L L.length) ++ x :: L.drop (insK x L L.length)
theorem insK_spec (x : E) (L : List E) : ∀ n : Nat, insK x L n ≤ n ∧ (∀ j, insK x L n ≤ j → j < n → ltE x (L.getD j default) = true) ∧ (0 < insK x L n → ltE x (L.getD (insK x L n - 1) default) = false)
  | 0 => ⟨Nat.le_refl _, fun j _ h => by omega, fun h => by simp [insK] at h⟩
  | n + 1 => by
    rw [insK]
    split
    · rename_i h
      obtain ⟨h1, h2, h3⟩ := insK_spec x L n
      refine ⟨by omega, fun j hj hj2 => ?_, h3⟩
      by_cases e : j = n
      · subst e; exact h
      · exact h2 j hj (by omega)
    · rename_i h
      refine ⟨Nat.le_refl _, fun j hj hj2 => by omega, fun _ => by simpa using h⟩
theorem length_insL (L : List E) (x : E) : (insL L x).length = L.length + 1 := by
  have := (insK_spec x L L.length).1
  unfold insL
  simp; omega
theorem insL_perm (L : List E) (x : E) : (insL L x).Perm (x :: L) := by
  unfold insL
  refine List.perm_middle.trans ?_
  rw [List.take_append_drop]
theorem mem_getD {L : List E} {y : E} (h : y ∈ L) : ∃ k, k < L.length ∧ L.getD k default = y := by
  obtain ⟨k, hk, rfl⟩ := List.getElem_of_mem h
  exact ⟨k, hk, by simp [hk]⟩
theorem srt_getD {L : List E} (h : Srt L) : ∀ i j, i < j → j < L.length → ltE (L.getD j default) (L.getD i default) = false := fun i j hij hj => by
  have := List.pairwise_iff_getElem.1 h i j (by omega) hj hij
  simpa [hj, show i < L.length by omega] using this
theorem insL_srt {L : List E} {x : E} (hn : ((x :: L).map E.id).Nodup) (h : Srt L) : Srt (insL L x) := by
  have O := ord_of hn
  obtain ⟨h1, h2, h3⟩ := insK_spec x L L.length
  unfold insL
  generalize hk : insK x L L.length = k at h1 h2 h3
  have hx : x ∈ x :: L := by simp
  have hm : ∀ j, j < L.length → L.getD j default ∈ x :: L := fun j hj => by simp [hj]
  refine List.pairwise_append.2 ⟨h.sublist (List.take_sublist _ _), List.Pairwise.cons (fun y hy => ?_) (h.sublist (List.drop_sublist _ _)), fun y hy z hz => ?_⟩
  · obtain ⟨j, hj, rfl⟩ := mem_getD hy
    rw [List.length_drop] at hj
    have e : (L.drop k).getD j default = L.getD (k + j) default := by simp [List.getD_eq_getElem?_getD, List.getElem?_drop]
    rw [e]
    exact O.asy _ _ hx (hm _ (by omega)) (h2 (k + j) (by omega) (by omega))
  · obtain ⟨i, hi, rfl⟩ := mem_getD hy
    rw [List.length_take] at hi
    have e : (L.take k).getD i default = L.getD i default := by simp only [List.getD_eq_getElem?_getD]; rw [List.getElem?_take_of_lt (by omega)]
    rw [e]
    have hxi : ltE x (L.getD i default) = false := by
      have h4 := h3 (by omega)
      by_cases hik : i = k - 1
      · rw [hik]; exact h4
      · exact O.neg _ _ _ (hm i (by omega)) (hm (k - 1) (by omega)) hx (srt_getD h i (k - 1) (by omega) (by omega)) h4
    rcases List.mem_cons.1 hz with rfl | hz
    · exact hxi
    · obtain ⟨j, hj, rfl⟩ := mem_getD hz
      rw [List.length_drop] at hj
      have e : (L.drop k).getD j default = L.getD (k + j) default := by simp [List.getD_eq_getElem?_getD, List.getElem?_drop]
      rw [e]
      exact srt_getD h i (k + j) (by omega) (by omega)
theorem foldIns : ∀ (l L : List E), ((l ++ L).map E.id).Nodup → Srt L → Srt (l.foldl insL L) ∧ (l.foldl insL L).Perm (l ++ L)
  | [], L, _, h => ⟨h, List.Perm.refl _⟩
  | x :: l, L, hn, h => by
    rw [List.foldl_cons]
    have hp : (l ++ insL L x).Perm (x :: l ++ L) := ((insL_perm L x).append_left l).trans List.perm_middle
    have hn2 : ((x :: L).map E.id).Nodup := hn.sublist (((List.sublist_append_right l L).cons_cons x).map E.id)
    obtain ⟨h1, h2⟩ := foldIns l (insL L x) (((hp.map E.id).nodup_iff).2 hn) (insL_srt hn2 h)
    exact ⟨h1, h2.trans hp⟩
/-- The row of a box. -/
theorem row_one {q L : List E} {bn : Int} (h : Inv q bn) (hp : L.Perm q) (hs : Srt L) : L = isortL q :=
  srt_one (ord_of h.nod) L _ (Hp.All.of_mem (fun x hx => hp.mem_iff.1 hx)) (hp.trans (isortL_perm q).symm) hs h.sorted
theorem row_put {q : List E} {bn bm : Int} (h : Inv q bn) (hb : bn ≤ bm) (x : E) (hx : x.id ∉ q.map E.id) (hl : q.length < 5) (hx2 : 0 ≤ x.tries ∧ x.tries ≤ 6 ∧ x.put ≤ bm) : insL (isortL q) x = isortL (Hp.pushL ltE q x) := by
  obtain ⟨h1, h2⟩ := h.push hb x hx hl hx2
  refine row_one h1 ((insL_perm _ _).trans (((isortL_perm q).cons x).trans h2.symm)) (insL_srt ?_ h.sorted)
  refine (((isortL_perm q).cons x).map E.id).nodup_iff.2 ?_
  rw [List.map_cons, List.nodup_cons]
  exact ⟨hx, h.nod⟩
theorem find_perm {q L : List E} (hp : L.Perm q) (id : ByteArray) : findI L id < 0 ↔ findI q id < 0 := by
  have h : ∀ l m : List E, l.Perm m → findI l id < 0 → findI m id < 0 := fun l m hp h => by
    rcases Int.lt_or_le (findI m id) 0 with h' | h'
    · exact h'
    · exfalso
      have h1 := findFrom_neg id l 0 (by unfold findI at h; omega)
      have h2 : id ∈ m.map E.id := by
        by_cases h3 : id ∈ m.map E.id
        · exact h3
        · exfalso
          have h4 : ∀ (m : List E) (i : Nat), id ∉ m.map E.id → findFrom id m i = -1 := by
            intro m
            induction m with
            | nil => intro _ _; rfl
            | cons e m ih =>
              intro i h
              rw [List.map_cons, List.mem_cons] at h
              rw [findFrom, if_neg (by rw [toList_beq]; exact fun e => h (.inl e.symm))]
              exact ih _ (fun hh => h (.inr hh))
          have := h4 m 0 h3
          unfold findI at h'
          omega
      exact h1 ((hp.map E.id).mem_iff.2 h2)
  exact ⟨h _ _ hp, h _ _ hp.symm⟩
theorem findFrom_at (id : ByteArray) : ∀ (l : List E) (i : Nat), 0 ≤ findFrom id l i → ∃ k, k < l.length ∧ findFrom id l i = ((i + k : Nat) : Int) ∧ (l.getD k default).id = id
  | [], i, h => by simp [findFrom] at h
  | e :: l, i, h => by
    rw [findFrom] at h ⊢
    split
    · rename_i hh
      exact ⟨0, by simp, rfl, (toList_beq _ _).1 hh⟩
    · rename_i hh
      rw [if_neg hh] at h
      obtain ⟨k, h1, h2, h3⟩ := findFrom_at id l (i + 1) h
      exact ⟨k + 1, by simpa using h1, by rw [h2]; omega, by simpa using h3⟩
theorem find_at {l : List E} {id : ByteArray} (h : 0 ≤ findI l id) : (findI l id).toNat < l.length ∧ (l.getD (findI l id).toNat default).id = id := by
  obtain ⟨k, h1, h2, h3⟩ := findFrom_at id l 0 h
  have e : (findI l id).toNat = k := by unfold findI; rw [h2]; omega
  rw [e]; exact ⟨h1, h3⟩
def cutL (L : List E) (k : Nat) : List E := L.take k ++ L.drop (k + 1)
theorem cutL_perm (L : List E) (k : Nat) (h : k < L.length) : (L.getD k default :: cutL L k).Perm L := by
  unfold cutL
  refine List.perm_middle.symm.trans ?_
  have e : L.getD k default :: L.drop (k + 1) = L.drop k := by rw [List.drop_eq_getElem_cons h]; simp [h]
  rw [e, List.take_append_drop]
theorem cutL_srt {L : List E} (k : Nat) (h : Srt L) : Srt (cutL L k) := by
  have hs : (cutL L k).Sublist L := by
    unfold cutL
    have := (List.Sublist.refl (L.take k)).append (List.drop_sublist_drop_left L (Nat.le_succ k))
    rw [List.take_append_drop] at this
    exact this
  exact h.sublist hs
theorem row_take {q : List E} {bn : Int} (h : Inv q bn) (id : ByteArray) (hf : 0 ≤ findI q id) : 0 ≤ findI (isortL q) id ∧ cutL (isortL q) (findI (isortL q) id).toNat = isortL (Hp.removeL ltE q (findI q id).toNat) := by
  have hfL : 0 ≤ findI (isortL q) id := by
    have := find_perm (isortL_perm q) id
    omega
  obtain ⟨a1, a2⟩ := find_at hf
  obtain ⟨b1, b2⟩ := find_at hfL
  obtain ⟨i1, i2⟩ := h.take _ a1
  refine ⟨hfL, row_one i1 ?_ (cutL_srt _ h.sorted)⟩
  have p1 := (cutL_perm _ _ b1).trans ((isortL_perm q).trans i2.symm)
  have e : (isortL q).getD (findI (isortL q) id).toNat default = q.getD (findI q id).toNat default := by
    refine nodup_inj E.id h.nod _ _ ((isortL_perm q).mem_iff.1 ?_) ?_ (b2.trans a2.symm)
    · simp [b1]
    · simp [a1]
  rw [e] at p1
  exact (List.perm_cons _).1 p1
/-- A try parts the row. -/
theorem row_try {q t r q' : List E} {bn now : Int} (h : Inv q bn) (hT : Tried q now t r q') : isortL q = t ++ isortL r ∧ (outL now t).foldl insL (isortL r) = isortL q' := by
  have hn : ((t ++ r).map E.id).Nodup := ((hT.old.map E.id).nodup_iff).2 h.nod
  have hnr : (r.map E.id).Nodup := hn.sublist ((List.sublist_append_right t r).map E.id)
  have hsr : Srt (isortL r) := isortL_srt (ord_of hnr) r (allIn r)
  constructor
  · refine (row_one h ((List.Perm.append_left t (isortL_perm r)).trans hT.old) (List.pairwise_append.2 ⟨hT.srt, hsr, fun x hx y hy => hT.ahead x hx y ((isortL_perm r).mem_iff.1 hy)⟩)).symm
  · have hp : (outL now t ++ isortL r).Perm (outL now t ++ r) := List.Perm.append_left _ (isortL_perm r)
    obtain ⟨h1, h2⟩ := foldIns (outL now t) (isortL r) (((hp.map E.id).nodup_iff).2 (((hT.perm.map E.id).nodup_iff).1 hT.inv.nod)) hsr
    exact row_one hT.inv (h2.trans (hp.trans hT.perm.symm)) h1
theorem row_late {q t r q' : List E} {now : Int} (hT : Tried q now t r q') : ∀ x ∈ isortL r, now < x.due := fun x hx => hT.late x ((isortL_perm r).mem_iff.1 hx)
end Go.Proofs.Ytkagfnocpllcpaa
