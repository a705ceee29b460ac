/- The box's laws, plain: what stays true of its heap; its entries sorted. No program in sight. -/
import Derived.Test.YtkagfnocpllcpaaAll
namespace Go.Proofs.Ytkagfnocpllcpaa
set_option linter.unusedVariables false
open Go
theorem nodup_inj {α β : Type} (f : α → β) : ∀ {q : List α}, (q.map f).Nodup → ∀ a b, a ∈ q → b ∈ q → f a = f b → a = b
  | [], _, a, _, ha, _, _ => by cases ha
  | x :: q, h, a, b, ha, hb, e => by
    rw [List.map_cons, List.nodup_cons] at h
    rcases List.mem_cons.1 ha with rfl | ha' <;> rcases List.mem_cons.1 hb with rfl | hb'
    · rfl
    · exact absurd (List.mem_map.2 ⟨b, hb', e.symm⟩) h.1
    · exact absurd (List.mem_map.2 ⟨a, ha', e⟩) h.1
    · exact nodup_inj f h.2 a b ha' hb' e
theorem ord_of {q : List E} (h : (q.map E.id).Nodup) : Hp.Ord ltE (· ∈ q) := ordE _ (fun a b ha hb e => nodup_inj E.id h a b ha hb e)
theorem allIn (q : List E) : Hp.All (· ∈ q) q := Hp.All.of_mem (fun _ h => h)
/-! ### The insertion sort -/
section
variable {P : E → Prop} (O : Hp.Ord ltE P)
def SortTo (n : Nat) (l : List E) : Prop := ∀ k, 0 < k → k < n → ltE (l.getD k default) (l.getD (k - 1) default) = false
def InsUp (n j : Nat) (l : List E) : Prop :=
  (∀ k, 0 < k → k < n → k ≠ j → ltE (l.getD k default) (l.getD (k - 1) default) = false) ∧ (j + 1 < n → 0 < j → ltE (l.getD (j + 1) default) (l.getD (j - 1) default) = false)
include O
theorem insAt_sort : ∀ (j : Nat) (l : List E) (n : Nat), Hp.All P l → n ≤ l.length → j < n → InsUp n j l → SortTo n (insAt j l)
  | 0, l, n, hA, hn, hj, h => fun k h0 hk => h.1 k h0 hk (by omega)
  | j + 1, l, n, hA, hn, hj, h => by
    rw [insAt]
    split
    · rename_i hlt
      refine insAt_sort j _ n (hA.swap _ _ (by omega) (by omega)) (by rw [Hp.length_swapL]; exact hn) (by omega) ⟨fun k h0 hk hkj => ?_, fun _ h0 => ?_⟩
      · rw [Hp.getD_swapL _ _ _ _ (by omega) (by omega), Hp.getD_swapL _ _ _ _ (by omega) (by omega)]
        by_cases h1 : k = j + 1
        · rw [if_pos h1, if_neg (by omega), if_pos (by omega)]
          exact O.asy _ _ (hA _ (by omega)) (hA _ (by omega)) hlt
        · rw [if_neg h1, if_neg hkj]
          by_cases h2 : k = j + 2
          · subst h2
            rw [if_pos (by omega)]
            exact h.2 (by omega) (by omega)
          · rw [if_neg (by omega), if_neg (by omega)]
            exact h.1 k h0 hk (by omega)
      · rw [Hp.getD_swapL _ _ _ _ (by omega) (by omega), Hp.getD_swapL _ _ _ _ (by omega) (by omega), if_pos rfl, if_neg (by omega), if_neg (by omega)]
        exact h.1 j h0 (by omega) (by omega)
    · rename_i hlt
      intro k h0 hk
      by_cases h1 : k = j + 1
      · subst h1
        simpa using hlt
      · exact h.1 k h0 hk h1
omit O in
theorem insAt_perm : ∀ (j : Nat) (l : List E), j < l.length → (insAt j l).Perm l
  | 0, l, _ => List.Perm.refl _
  | j + 1, l, h => by
    rw [insAt]
    split
    · exact (insAt_perm j _ (by rw [Hp.length_swapL]; omega)).trans (Hp.swapL_perm l j (j + 1) (by omega) h)
    · exact List.Perm.refl _
omit O in
theorem isortTo_perm : ∀ (k : Nat) (l : List E), k < l.length → (isortTo k l).Perm l
  | 0, l, _ => List.Perm.refl _
  | k + 1, l, h => by
    rw [isortTo]
    exact (insAt_perm _ _ (by rw [length_isortTo]; exact h)).trans (isortTo_perm k l (by omega))
omit O in
theorem All_perm {l l' : List E} (h : Hp.All P l) (hp : l'.Perm l) : Hp.All P l' := Hp.All.of_mem (fun x hx => h.mem x (hp.mem_iff.1 hx))
theorem isortTo_sort : ∀ (k : Nat) (l : List E), Hp.All P l → k < l.length → SortTo (k + 1) (isortTo k l)
  | 0, l, _, _ => fun k h0 hk => by omega
  | k + 1, l, hA, hk => by
    rw [isortTo]
    refine insAt_sort O (k + 1) _ (k + 2) (All_perm hA (isortTo_perm k l (by omega))) (by rw [length_isortTo]; omega) (by omega) ⟨fun m h0 hm hmk => ?_, fun h => by omega⟩
    exact isortTo_sort k l hA (by omega) m h0 (by omega)
omit O in
theorem isortL_perm (l : List E) : (isortL l).Perm l := by
  unfold isortL
  cases l with
  | nil => exact List.Perm.refl _
  | cons x l => exact isortTo_perm _ _ (by simp)
theorem isortL_sort (l : List E) (hA : Hp.All P l) : SortTo l.length (isortL l) := by
  unfold isortL
  cases l with
  | nil => exact fun k h0 hk => by simp at hk
  | cons x l => exact isortTo_sort O _ _ hA (by simp)
/-- Sorted: nobody stands ahead of one that comes before. -/
def Srt (l : List E) : Prop := l.Pairwise (fun a b => ltE b a = false)
theorem srt_of : ∀ (l : List E), Hp.All P l → SortTo l.length l → Srt l
  | [], _, _ => List.Pairwise.nil
  | [x], _, _ => List.pairwise_singleton _ _
  | x :: y :: l, hA, h => by
    have hs : Srt (y :: l) := srt_of (y :: l) (Hp.All.of_mem (fun z hz => hA.mem z (List.mem_cons_of_mem _ hz))) (fun k h0 hk => by
      have := h (k + 1) (by omega) (by simp at hk ⊢; omega)
      obtain ⟨k, rfl⟩ : ∃ m, k = m + 1 := ⟨k - 1, by omega⟩
      simpa using this)
    have hxy : ltE y x = false := by simpa using h 1 (by omega) (by simp)
    refine List.Pairwise.cons (fun z hz => ?_) hs
    rcases List.mem_cons.1 hz with rfl | hz
    · exact hxy
    · exact O.neg x y z (hA.mem _ (by simp)) (hA.mem _ (by simp)) (hA.mem _ (by simp [hz])) hxy ((List.pairwise_cons.1 hs).1 z hz)
theorem isortL_srt (l : List E) (hA : Hp.All P l) : Srt (isortL l) := srt_of O _ (All_perm hA (isortL_perm l)) (by rw [(isortL_perm l).length_eq]; exact isortL_sort O l hA)
/-- There is one sorted row of the same entries. -/
theorem srt_one : ∀ (l m : List E), Hp.All P l → l.Perm m → Srt l → Srt m → l = m
  | [], m, _, hp, _, _ => hp.nil_eq
  | a :: l, [], _, hp, _, _ => by simpa using hp.length_eq
  | a :: l, b :: m, hA, hp, h1, h2 => by
    have pa : P a := hA.mem _ (by simp)
    have hb : b ∈ a :: l := hp.mem_iff.2 (by simp)
    have pb : P b := hA.mem _ hb
    have ha : a ∈ b :: m := hp.mem_iff.1 (by simp)
    have e : a = b := by
      rcases List.mem_cons.1 hb with e | hb
      · exact e.symm
      · rcases List.mem_cons.1 ha with e | ha
        · exact e
        · exact O.tot _ _ pa pb ((List.pairwise_cons.1 h2).1 a ha) ((List.pairwise_cons.1 h1).1 b hb)
    subst e
    rw [srt_one l m (Hp.All.of_mem (fun z hz => hA.mem z (List.mem_cons_of_mem _ hz))) (List.perm_cons a |>.1 hp) (List.pairwise_cons.1 h1).2 (List.pairwise_cons.1 h2).2]
end
/-! ### What stays true of a box -/
structure Inv (q : List E) (bn : Int) : Prop where
  len : q.length ≤ 5
  nod : (q.map E.id).Nodup
  heap : Hp.IsHeap ltE q.length q
  all : ∀ x ∈ q, 0 ≤ x.tries ∧ x.tries ≤ 6 ∧ x.put ≤ bn
theorem Inv.nil (bn : Int) : Inv [] bn := ⟨by simp, by simp, fun k h0 hk => by simp at hk, fun x hx => by cases hx⟩
theorem Inv.tries {q : List E} {bn : Int} (h : Inv q bn) : ∀ x ∈ q, 0 ≤ x.tries ∧ x.tries ≤ 6 := fun x hx => ⟨(h.all x hx).1, (h.all x hx).2.1⟩
theorem toList_beq (a b : ByteArray) : (a.toList == b.toList) = true ↔ a = b := by
  rw [beq_iff_eq, ByteArray.toList_eq, ByteArray.toList_eq]
  exact ⟨fun h => ByteArray.ext (Array.ext' h), fun h => by rw [h]⟩
theorem findFrom_neg (id : ByteArray) : ∀ (l : List E) (i : Nat), ¬ 0 ≤ findFrom id l i → id ∉ l.map E.id
  | [], _, _ => by simp
  | e :: l, i, h => by
    rw [findFrom] at h
    split at h
    · omega
    · rename_i hh
      rw [toList_beq] at hh
      rw [List.map_cons, List.mem_cons]
      rintro (rfl | hm)
      · exact hh rfl
      · exact findFrom_neg id l (i + 1) h hm
theorem findFrom_pos (id : ByteArray) : ∀ (l : List E) (i : Nat), id ∈ l.map E.id → 0 ≤ findFrom id l i
  | [], _, h => by simp at h
  | e :: l, i, h => by
    rw [findFrom]
    split
    · omega
    · rename_i hh
      rw [toList_beq] at hh
      rw [List.map_cons, List.mem_cons] at h
      rcases h with rfl | h
      · exact absurd rfl hh
      · exact findFrom_pos id l (i + 1) h
theorem Inv.push {q : List E} {bn bm : Int} (h : Inv q bn) (hb : bn ≤ bm) (x : E) (hx : x.id ∉ q.map E.id) (hl : q.length < 5) (hx2 : 0 ≤ x.tries ∧ x.tries ≤ 6 ∧ x.put ≤ bm) :
    Inv (Hp.pushL ltE q x) bm ∧ (Hp.pushL ltE q x).Perm (x :: q) := by
  have hn : ((x :: q).map E.id).Nodup := by rw [List.map_cons, List.nodup_cons]; exact ⟨hx, h.nod⟩
  obtain ⟨h1, h2⟩ := Hp.push_heap ltE (ord_of hn) q x (Hp.All.of_mem (fun y hy => List.mem_cons_of_mem _ hy)) (by simp) h.heap
  have hlen : (Hp.pushL ltE q x).length = q.length + 1 := by rw [h2.length_eq]; rfl
  refine ⟨⟨by omega, ((h2.map E.id).nodup_iff).2 hn, by rw [hlen]; exact h1, fun y hy => ?_⟩, h2⟩
  rcases List.mem_cons.1 (h2.mem_iff.1 hy) with rfl | hy
  · exact hx2
  · have := h.all y hy; omega
theorem Inv.take {q : List E} {bn : Int} (h : Inv q bn) (i : Nat) (hi : i < q.length) : Inv (Hp.removeL ltE q i) bn ∧ (q.getD i default :: Hp.removeL ltE q i).Perm q := by
  obtain ⟨h1, h2⟩ := Hp.remove_heap ltE (ord_of h.nod) q i (allIn q) hi h.heap
  have hlen : (Hp.removeL ltE q i).length = q.length - 1 := by have := h2.length_eq; simp at this; omega
  have hn := ((h2.map E.id).nodup_iff).2 h.nod
  rw [List.map_cons, List.nodup_cons] at hn
  have := h.len
  exact ⟨⟨by omega, hn.2, by rw [hlen]; exact h1, fun y hy => h.all y (h2.mem_iff.1 (List.mem_cons_of_mem _ hy))⟩, h2⟩
/-- What is due, and what is not. -/
theorem due_laws (now : Int) : ∀ (f : Nat) (q : List E), q.length ≤ f → (q.map E.id).Nodup → Hp.IsHeap ltE q.length q →
    ((dueF now f q).1 ++ (dueF now f q).2).Perm q ∧ Hp.IsHeap ltE (dueF now f q).2.length (dueF now f q).2 ∧ (∀ x ∈ (dueF now f q).1, x.due ≤ now) ∧ (∀ x ∈ (dueF now f q).2, now < x.due) ∧
    Srt ((dueF now f q).1) ∧ ∀ x ∈ (dueF now f q).1, ∀ y ∈ (dueF now f q).2, ltE y x = false
  | 0, q, h, _, hh => by
    have : q = [] := List.eq_nil_of_length_eq_zero (by omega)
    subst this
    exact ⟨List.Perm.refl _, hh, fun x hx => by simp [dueF] at hx, fun x hx => by simp [dueF] at hx, List.Pairwise.nil, fun x hx => by simp [dueF] at hx⟩
  | f + 1, q, h, hn, hh => by
    rw [dueF]
    have O := ord_of hn
    split
    · rename_i hc
      obtain ⟨h1, h2, h3, h4⟩ := Hp.pop_heap ltE O q (allIn q) hc.1 hh
      have hn' := ((h4.map E.id).nodup_iff).2 hn
      rw [List.map_cons, List.nodup_cons] at hn'
      obtain ⟨i1, i2, i3, i4, i5, i6⟩ := due_laws now f (Hp.popL ltE q).1 (by omega) hn'.2 (by rw [h3]; exact h2)
      have hmin : ∀ y ∈ q, ltE y (Hp.popL ltE q).2 = false := fun y hy => by
        obtain ⟨k, hk, rfl⟩ := List.getElem_of_mem hy
        have := Hp.heap_min ltE O q q.length (allIn q) (Nat.le_refl _) hh k hk
        rw [h1]
        simpa [hk] using this
      have hsub : ∀ y ∈ (Hp.popL ltE q).1, y ∈ q := fun y hy => h4.mem_iff.1 (List.mem_cons_of_mem _ hy)
      refine ⟨(List.Perm.cons _ i1).trans h4, i2, fun x hx => ?_, i4, List.Pairwise.cons (fun y hy => hmin y (hsub y (i1.mem_iff.1 (by simp [hy])))) i5, fun x hx y hy => ?_⟩
      · rcases List.mem_cons.1 hx with rfl | hx
        · rw [h1]; exact hc.2
        · exact i3 x hx
      · rcases List.mem_cons.1 hx with rfl | hx
        · exact hmin y (hsub y (i1.mem_iff.1 (by simp [hy])))
        · exact i6 x hx y hy
    · rename_i hc
      refine ⟨List.Perm.refl _, hh, fun x hx => (by simp at hx), fun x (hx : x ∈ q) => ?_, List.Pairwise.nil, fun x hx => (by simp at hx)⟩
      have h0 : 0 < q.length := List.length_pos_of_mem hx
      have hd : ¬ (q.getD 0 default).due ≤ now := fun h => hc ⟨h0, h⟩
      obtain ⟨k, hk, rfl⟩ := List.getElem_of_mem hx
      have hm := Hp.heap_min ltE O q q.length (allIn q) (Nat.le_refl _) hh k hk
      have e : q.getD k default = q[k] := by simp [hk]
      rw [e, Bool.eq_false_iff, ne_eq, ltE_iff] at hm
      have hx2 : ¬ (q[k]).due < (q.getD 0 default).due := fun h => hm (.inl h)
      omega
theorem outL_ids (now : Int) (t : List E) : (outL now t).map E.id = (t.filter (fun x => !decide (x.tries = 6))).map E.id := by
  unfold outL
  rw [List.map_map]
  rfl
theorem outL_mem (now : Int) (t : List E) : ∀ y ∈ outL now t, ∃ x ∈ t, ¬ x.tries = 6 ∧ y = stepT now x := fun y hy => by
  unfold outL at hy
  obtain ⟨x, hx, rfl⟩ := List.mem_map.1 hy
  obtain ⟨h1, h2⟩ := List.mem_filter.1 hx
  exact ⟨x, h1, by simpa using h2, rfl⟩
/-- Many are put. -/
theorem Inv.pushAll : ∀ (l q : List E) (bn bm : Int), Inv q bn → bn ≤ bm → (l.map E.id).Nodup → (∀ x ∈ l, x.id ∉ q.map E.id) → q.length + l.length ≤ 5 → (∀ x ∈ l, 0 ≤ x.tries ∧ x.tries ≤ 6 ∧ x.put ≤ bm) →
    Inv (pushAll q l) bm ∧ (Go.Proofs.Ytkagfnocpllcpaa.pushAll q l).Perm (l ++ q)
  | [], q, bn, bm, h, hb, _, _, _, _ => ⟨⟨h.len, h.nod, h.heap, fun x hx => by have := h.all x hx; show _ ∧ _ ∧ _; omega⟩, List.Perm.refl _⟩
  | x :: l, q, bn, bm, h, hb, hn, hd, hl, ha => by
    rw [List.map_cons, List.nodup_cons] at hn
    obtain ⟨h1, h2⟩ := h.push hb x (hd x (by simp)) (by simp at hl; omega) (ha x (by simp))
    have hlen := h2.length_eq
    obtain ⟨h3, h4⟩ := Inv.pushAll l (Hp.pushL ltE q x) bm bm h1 (Int.le_refl _) hn.2 (fun y hy hm => by
      obtain ⟨z, hz, e⟩ := List.mem_map.1 hm
      rcases List.mem_cons.1 (h2.mem_iff.1 hz) with rfl | hz
      · exact hn.1 (e ▸ List.mem_map.2 ⟨y, hy, rfl⟩)
      · exact hd y (by simp [hy]) (List.mem_map.2 ⟨z, hz, e⟩)) (by simp at hl hlen; omega) (fun y hy => ha y (by simp [hy]))
    refine ⟨h3, h4.trans ((h2.append_left l).trans ?_)⟩
    exact List.perm_middle
theorem goneL_outL_len (now : Int) : ∀ (t : List E), (goneL t).length + (outL now t).length = t.length
  | [] => rfl
  | x :: t => by
    have ih := goneL_outL_len now t
    unfold goneL outL at ih ⊢
    by_cases h : x.tries = 6
    · rw [List.filter_cons_of_pos (by simpa using h), List.filter_cons_of_neg (by simpa using h)]
      simp only [List.map_cons, List.length_cons]; omega
    · rw [List.filter_cons_of_neg (by simpa using h), List.filter_cons_of_pos (by simpa using h)]
      simp only [List.map_cons, List.length_cons]; omega
/-- A try at a time that may be. -/
structure Tried (q : List E) (now : Int) (t r q' : List E) : Prop where
  inv : Inv q' now
  perm : q'.Perm (outL now t ++ r)
  old : (t ++ r).Perm q
  due : ∀ x ∈ t, x.due ≤ now
  late : ∀ x ∈ r, now < x.due
  srt : Srt t
  ahead : ∀ x ∈ t, ∀ y ∈ r, ltE y x = false
  heap : Hp.IsHeap ltE r.length r
theorem Inv.try_ {q : List E} {bn now : Int} (h : Inv q bn) (hb : bn ≤ now) : Tried q now (dueL now q).1 (dueL now q).2 (Go.Proofs.Ytkagfnocpllcpaa.pushAll (dueL now q).2 (outL now (dueL now q).1)) := by
  obtain ⟨h1, h2, h3, h4, h5, h6⟩ := due_laws now q.length q (Nat.le_refl _) h.nod h.heap
  rw [show dueF now q.length q = dueL now q from rfl] at h1 h2 h3 h4 h5 h6
  obtain ⟨t, ht⟩ : ∃ t, t = (dueL now q).1 := ⟨_, rfl⟩
  obtain ⟨r, hr⟩ : ∃ r, r = (dueL now q).2 := ⟨_, rfl⟩
  rw [← ht, ← hr] at h1 h6 ⊢
  rw [← ht] at h3 h5
  rw [← hr] at h2 h4
  have hmem : ∀ x, x ∈ t ∨ x ∈ r → x ∈ q := fun x hx => h1.mem_iff.1 (List.mem_append.2 hx)
  have hn := ((h1.map E.id).nodup_iff).2 h.nod
  rw [List.map_append, List.nodup_append] at hn
  obtain ⟨n1, n2, n3⟩ := hn
  have hlen := h1.length_eq
  rw [List.length_append] at hlen
  have hol := outL_len now t
  have h5' := h.len
  have hr0 : Inv r bn := ⟨by omega, n2, h2, fun x hx => h.all x (hmem x (.inr hx))⟩
  obtain ⟨i1, i2⟩ := Inv.pushAll (outL now t) r bn now hr0 hb (by rw [outL_ids]; exact n1.sublist (List.filter_sublist.map _)) (fun y hy hm => by
    obtain ⟨x, hx, _, rfl⟩ := outL_mem now t y hy
    exact n3 x.id (List.mem_map.2 ⟨x, hx, rfl⟩) x.id hm rfl) (by omega) (fun y hy => by
    obtain ⟨x, hx, h6, rfl⟩ := outL_mem now t y hy
    have := h.all x (hmem x (.inl hx))
    show 0 ≤ x.tries + 1 ∧ x.tries + 1 ≤ 6 ∧ x.put ≤ now
    omega)
  exact ⟨i1, i2, h1, h3, h4, h5, h6, h2⟩
theorem Tried.later {q t r q' : List E} {now : Int} (h : Tried q now t r q') : ∀ x ∈ q', now < x.due := fun x hx => by
  rcases List.mem_append.1 (h.perm.mem_iff.1 hx) with hx | hx
  · obtain ⟨y, _, _, rfl⟩ := outL_mem now t x hx
    have := waitI_bd (y.tries + 1)
    show now < now + waitI (y.tries + 1)
    omega
  · exact h.late x hx
theorem Inv.sorted {q : List E} {bn : Int} (h : Inv q bn) : Srt (isortL q) := isortL_srt (ord_of h.nod) q (allIn q)
end Go.Proofs.Ytkagfnocpllcpaa
