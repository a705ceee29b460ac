/- Plain laws of rooms: what Write, Part and Up leave of each room. -/
import Derived.Test.YtnlkjhhocehhaaaPart
import Derived.Test.YtnlkjhhocehhaaaNewD
namespace Go.Proofs.Ytnlkjhhocehhaaa
set_option linter.unusedVariables false
open Go Go.RowKit Go.Proofs Sha
/-- The bytes of the writes to a room. -/
def sel (r : Int) (ws : List Wr) : List (List UInt8) := (ws.filter (fun e => decide (e.room = r))).map (fun e => e.x)
theorem sel_nil (r : Int) : sel r [] = [] := rfl
theorem sel_cons (r : Int) (e : Wr) (ws : List Wr) : sel r (e :: ws) = if e.room = r then e.x :: sel r ws else sel r ws := by
  unfold sel
  by_cases h : e.room = r <;> simp [h]
theorem sel_append (r : Int) (a b : List Wr) : sel r (a ++ b) = sel r a ++ sel r b := by unfold sel; simp
theorem sel_swap (r : Int) : ∀ (j : Nat) (l : List Wr), j + 1 < l.length → (l.getD (j + 1) default).room ≠ (l.getD j default).room → sel r (Hp.swapL l j (j + 1)) = sel r l
  | _, [], h, _ => by simp at h
  | _, [_], h, _ => by simp at h
  | 0, a :: b :: q, _, hne => by
    have hne' : b.room ≠ a.room := by simpa using hne
    have : Hp.swapL (a :: b :: q) 0 1 = b :: a :: q := by simp [Hp.swapL]
    rw [this, sel_cons, sel_cons, sel_cons, sel_cons]
    by_cases h1 : a.room = r
    · rw [if_pos h1, if_pos h1, if_neg (fun h2 => hne' (h2.trans h1.symm)), if_neg (fun h2 => hne' (h2.trans h1.symm))]
    · rw [if_neg h1, if_neg h1]
  | j + 1, a :: l, h, hne => by
    have ih := sel_swap r j l (by simpa using h) (by simpa using hne)
    have : Hp.swapL (a :: l) (j + 1) (j + 1 + 1) = a :: Hp.swapL l j (j + 1) := by simp [Hp.swapL]
    rw [this, sel_cons, sel_cons, ih]
theorem sel_insAt (r : Int) : ∀ (j : Nat) (l : List Wr), j < l.length → sel r (insAt j l) = sel r l
  | 0, _, _ => rfl
  | j + 1, l, h => by
    unfold insAt
    by_cases hlt : ltW (l.getD (j + 1) default) (l.getD j default) = true
    · rw [if_pos hlt, sel_insAt r j _ (by rw [Hp.length_swapL]; omega)]
      refine sel_swap r j l h (fun he => ?_)
      unfold ltW at hlt
      have := of_decide_eq_true hlt
      omega
    · rw [if_neg hlt]
theorem sel_isortTo (r : Int) : ∀ (k : Nat) (l : List Wr), k < l.length → sel r (isortTo k l) = sel r l
  | 0, _, _ => rfl
  | k + 1, l, h => by
    unfold isortTo
    rw [sel_insAt r _ _ (by rw [length_isortTo]; exact h), sel_isortTo r k l (by omega)]
theorem sel_isort (r : Int) (l : List Wr) : sel r (isortL l) = sel r l := by
  unfold isortL
  cases l with
  | nil => rfl
  | cons x l => exact sel_isortTo r _ _ (by simp)
theorem sel_mem {r : Int} {ws : List Wr} {x : List UInt8} (h : x ∈ sel r ws) : ∃ e ∈ ws, e.x = x := by
  unfold sel at h
  obtain ⟨e, he, rfl⟩ := List.mem_map.1 h
  exact ⟨e, (List.mem_filter.1 he).1, rfl⟩
theorem sel_len (r : Int) (ws : List Wr) : (sel r ws).length ≤ ws.length := by
  unfold sel; rw [List.length_map]; exact List.length_filter_le _ _
theorem recs_sel (k : Nat) : ∀ (ws : List Wr), (recs (sel (k : Int) ws)).length = moreN ws k
  | [] => rfl
  | e :: ws => by
    have ih := recs_sel k ws
    rw [sel_cons]
    unfold moreN at ih ⊢
    rw [List.map_cons, List.sum_cons]
    by_cases h : e.room = (k : Int)
    · rw [if_pos h, if_pos h, recs_cons, List.length_append, length_recB, ih]
    · rw [if_neg h, if_neg h, ih]; omega
theorem foldl_putW_len : ∀ (ws : List Wr) (l : List (List UInt8)), (ws.foldl putW l).length = l.length
  | [], _ => rfl
  | e :: ws, l => by rw [List.foldl_cons, foldl_putW_len ws, putW_len]
theorem foldl_putW_get (n k : Nat) (hk : k < n) : ∀ (ws : List Wr) (l : List (List UInt8)), l.length = n → (∀ e ∈ ws, badW n e = false) → (ws.foldl putW l).getD k [] = l.getD k [] ++ recs (sel (k : Int) ws)
  | [], l, _, _ => by rw [List.foldl_nil, sel_nil, recs_nil, List.append_nil]
  | e :: ws, l, hl, hw => by
    obtain ⟨q, hq, hqn⟩ := badW_room (hw e (by simp))
    rw [List.foldl_cons, foldl_putW_get n k hk ws _ (by rw [putW_len]; exact hl) (fun e' he' => hw e' (by simp [he'])), putW_get l e k (by omega) (by omega), sel_cons]
    by_cases h : e.room = (k : Int)
    · rw [if_pos h, if_pos h, recs_cons, List.append_assoc]
    · rw [if_neg h, if_neg h]
theorem putT_len (l : List (List UInt8)) (e : Wr) (mo : Nat) : (putT l e mo).length = l.length := by unfold putT; simp
theorem putT_get (l : List (List UInt8)) (e : Wr) (mo k : Nat) (hk : k < l.length) (he : 0 ≤ e.room) : ((putT l e mo).getD k []) = if e.room = (k : Int) then l.getD k [] ++ (recB e.x).take mo else l.getD k [] := by
  unfold putT
  simp only [List.getD_eq_getElem?_getD, List.getElem?_set]
  by_cases h : e.room = (k : Int)
  · rw [if_pos h, if_pos (by omega), if_pos (by omega), h]; simp
  · rw [if_neg h, if_neg (by omega)]
/-- The torn part of the first of records. -/
def tornOf (torn : Int) : List (List UInt8) → List UInt8
  | [] => []
  | x :: _ => (recB x).take (tornN torn x)
def partL (room k torn r : Int) (S : List (List UInt8)) : List (List UInt8) := if r < room then S else if r = room then S.take (max k 0).toNat else []
def partT (room k torn r : Int) (S : List (List UInt8)) : List UInt8 := if r = room then tornOf torn (S.drop (max k 0).toNat) else []
theorem tornN_lt (torn : Int) (x : List UInt8) : tornN torn x < 6 + x.length := by unfold tornN; omega
theorem tornOf_none (torn : Int) : ∀ (S : List (List UInt8)), (∀ x ∈ S, x.length ≤ 4000) → nextB (tornOf torn S) = none
  | [], _ => nextB_nil
  | x :: _, h => nextB_torn x _ (h x (by simp)) (tornN_lt torn x)
theorem partT_none (room k torn r : Int) (S : List (List UInt8)) (h : ∀ x ∈ S, x.length ≤ 4000) : nextB (partT room k torn r S) = none := by
  unfold partT
  by_cases hr : r = room
  · rw [if_pos hr]; exact tornOf_none torn _ (fun x hx => h x (List.mem_of_mem_drop hx))
  · rw [if_neg hr]; exact nextB_nil
theorem partL_mem {room k torn r : Int} {S : List (List UInt8)} {x : List UInt8} (h : x ∈ partL room k torn r S) : x ∈ S := by
  unfold partL at h
  by_cases h1 : r < room
  · rwa [if_pos h1] at h
  · rw [if_neg h1] at h
    by_cases h2 : r = room
    · rw [if_pos h2] at h; exact List.mem_of_mem_take h
    · rw [if_neg h2] at h; cases h
theorem tornOf_len (torn : Int) (S : List (List UInt8)) : (tornOf torn S).length ≤ (recs S).length := by
  cases S with
  | nil => exact Nat.le_refl _
  | cons x S =>
    rw [recs_cons, List.length_append]
    unfold tornOf
    rw [List.length_take]; omega
theorem part_len (room k torn r : Int) (S : List (List UInt8)) : (recs (partL room k torn r S)).length + (partT room k torn r S).length ≤ (recs S).length := by
  unfold partL partT
  by_cases h1 : r < room
  · rw [if_pos h1, if_neg (by omega)]; exact Nat.le_refl _
  · rw [if_neg h1]
    by_cases h2 : r = room
    · rw [if_pos h2, if_pos h2]
      have h3 := tornOf_len torn (S.drop (max k 0).toNat)
      have h4 : recs S = recs (S.take (max k 0).toNat) ++ recs (S.drop (max k 0).toNat) := by rw [← recs_append, List.take_append_drop]
      rw [h4, List.length_append]; omega
    · rw [if_neg h2, if_neg h2]; simp [recs_nil]
theorem partStep_len (room k torn : Int) : ∀ (ws : List Wr) (st : List (List UInt8) × Nat), (ws.foldl (partStep room k torn) st).1.length = st.1.length
  | [], _ => rfl
  | e :: ws, st => by
    rw [List.foldl_cons, partStep_len room k torn ws]
    unfold partStep
    split
    · exact putT_len _ _ _
    · split
      · exact putT_len _ _ _
      · split
        · exact putT_len _ _ _
        · rfl
theorem partStep_eq (room k torn : Int) (l : List (List UInt8)) (c : Nat) (e : Wr) : partStep room k torn (l, c) e =
    if e.room < room then (putT l e 4006, c) else if e.room = room ∧ (c : Int) < k then (putT l e 4006, c + 1) else if e.room = room ∧ (c : Int) = max k 0 then (putT l e (tornN torn e.x), c + 1) else (l, c) := rfl
theorem part_below (room k torn : Int) (n r : Nat) (hr : r < n) (hlt : (r : Int) < room) : ∀ (ws : List Wr) (l : List (List UInt8)) (c : Nat), l.length = n → (∀ e ∈ ws, badW n e = false ∧ e.x.length ≤ 4000) →
    (ws.foldl (partStep room k torn) (l, c)).1.getD r [] = l.getD r [] ++ recs (sel (r : Int) ws)
  | [], l, _, _, _ => by rw [List.foldl_nil, sel_nil, recs_nil, List.append_nil]
  | e :: ws, l, c, hl, hw => by
    obtain ⟨q, hq, hqn⟩ := badW_room (hw e (by simp)).1
    have hx := (hw e (by simp)).2
    have hws : ∀ e ∈ ws, badW n e = false ∧ e.x.length ≤ 4000 := fun e' he' => hw e' (by simp [he'])
    rw [List.foldl_cons, sel_cons, partStep_eq]
    by_cases h1 : e.room < room
    · rw [if_pos h1, part_below room k torn n r hr hlt ws _ _ (by rw [putT_len]; exact hl) hws, putT_get l e 4006 r (by omega) (by omega)]
      by_cases h : e.room = (r : Int)
      · rw [if_pos h, if_pos h, recs_cons, List.append_assoc, recB_all _ hx]
      · rw [if_neg h, if_neg h]
    · rw [if_neg h1, if_neg (show ¬ e.room = (r : Int) by omega)]
      by_cases h2 : e.room = room ∧ (c : Int) < k
      · rw [if_pos h2, part_below room k torn n r hr hlt ws _ _ (by rw [putT_len]; exact hl) hws, putT_get l e 4006 r (by omega) (by omega), if_neg (by omega)]
      · rw [if_neg h2]
        by_cases h3 : e.room = room ∧ (c : Int) = max k 0
        · rw [if_pos h3, part_below room k torn n r hr hlt ws _ _ (by rw [putT_len]; exact hl) hws, putT_get l e _ r (by omega) (by omega), if_neg (by omega)]
        · rw [if_neg h3, part_below room k torn n r hr hlt ws _ _ hl hws]
theorem part_above (room k torn : Int) (n r : Nat) (hr : r < n) (hlt : room < (r : Int)) : ∀ (ws : List Wr) (l : List (List UInt8)) (c : Nat), l.length = n → (∀ e ∈ ws, badW n e = false ∧ e.x.length ≤ 4000) →
    (ws.foldl (partStep room k torn) (l, c)).1.getD r [] = l.getD r []
  | [], l, _, _, _ => rfl
  | e :: ws, l, c, hl, hw => by
    obtain ⟨q, hq, hqn⟩ := badW_room (hw e (by simp)).1
    have hws : ∀ e ∈ ws, badW n e = false ∧ e.x.length ≤ 4000 := fun e' he' => hw e' (by simp [he'])
    rw [List.foldl_cons, partStep_eq]
    by_cases h1 : e.room < room
    · rw [if_pos h1, part_above room k torn n r hr hlt ws _ _ (by rw [putT_len]; exact hl) hws, putT_get l e 4006 r (by omega) (by omega), if_neg (by omega)]
    · rw [if_neg h1]
      by_cases h2 : e.room = room ∧ (c : Int) < k
      · rw [if_pos h2, part_above room k torn n r hr hlt ws _ _ (by rw [putT_len]; exact hl) hws, putT_get l e 4006 r (by omega) (by omega), if_neg (by omega)]
      · rw [if_neg h2]
        by_cases h3 : e.room = room ∧ (c : Int) = max k 0
        · rw [if_pos h3, part_above room k torn n r hr hlt ws _ _ (by rw [putT_len]; exact hl) hws, putT_get l e _ r (by omega) (by omega), if_neg (by omega)]
        · rw [if_neg h3, part_above room k torn n r hr hlt ws _ _ hl hws]
theorem part_at (k torn : Int) (n r : Nat) (hr : r < n) : ∀ (ws : List Wr) (l : List (List UInt8)) (c : Nat), l.length = n → (∀ e ∈ ws, badW n e = false ∧ e.x.length ≤ 4000) →
    (ws.foldl (partStep (r : Int) k torn) (l, c)).1.getD r [] = if c ≤ (max k 0).toNat then l.getD r [] ++ (recs ((sel (r : Int) ws).take ((max k 0).toNat - c)) ++ tornOf torn ((sel (r : Int) ws).drop ((max k 0).toNat - c))) else l.getD r []
  | [], l, c, _, _ => by
    rw [List.foldl_nil, sel_nil, List.take_nil, List.drop_nil, recs_nil]
    unfold tornOf
    simp
  | e :: ws, l, c, hl, hw => by
    obtain ⟨q, hq, hqn⟩ := badW_room (hw e (by simp)).1
    have hx := (hw e (by simp)).2
    have hws : ∀ e ∈ ws, badW n e = false ∧ e.x.length ≤ 4000 := fun e' he' => hw e' (by simp [he'])
    rw [List.foldl_cons, sel_cons]
    obtain ⟨K, hK⟩ : ∃ K, K = (max k 0).toNat := ⟨_, rfl⟩
    have ih := fun l c hl => part_at k torn n r hr ws l c hl hws
    rw [← hK] at ih ⊢
    rw [partStep_eq]
    by_cases h1 : e.room < (r : Int)
    · rw [if_pos h1, ih _ _ (by rw [putT_len]; exact hl), putT_get l e 4006 r (by omega) (by omega), if_neg (show ¬ e.room = (r : Int) by omega), if_neg (show ¬ e.room = (r : Int) by omega)]
    · rw [if_neg h1]
      by_cases h2 : e.room = (r : Int)
      · by_cases h3 : (c : Int) < k
        · rw [if_pos ⟨h2, h3⟩, ih _ _ (by rw [putT_len]; exact hl), putT_get l e 4006 r (by omega) (by omega), if_pos h2, if_pos h2, if_pos (show c + 1 ≤ K by omega), if_pos (show c ≤ K by omega), recB_all _ hx, show K - c = (K - (c + 1)) + 1 by omega, List.take_succ_cons, List.drop_succ_cons, recs_cons, List.append_assoc, List.append_assoc]
        · rw [if_neg (fun h => h3 h.2)]
          by_cases h4 : (c : Int) = max k 0
          · rw [if_pos ⟨h2, h4⟩, ih _ _ (by rw [putT_len]; exact hl), putT_get l e _ r (by omega) (by omega), if_pos h2, if_pos h2, if_neg (show ¬ c + 1 ≤ K by omega), if_pos (show c ≤ K by omega), show K - c = 0 by omega, List.take_zero, List.drop_zero, recs_nil, List.nil_append]
            rfl
          · rw [if_neg (fun h => h4 h.2), ih _ _ hl, if_neg (show ¬ c ≤ K by omega), if_neg (show ¬ c ≤ K by omega)]
      · rw [if_neg (fun h => h2 h.1), if_neg (fun h => h2 h.1), if_neg h2, ih _ _ hl]
/-- What Part leaves of a room. -/
theorem part_get (room k torn : Int) (n r : Nat) (hr : r < n) (ws : List Wr) (l : List (List UInt8)) (hl : l.length = n) (hw : ∀ e ∈ ws, badW n e = false ∧ e.x.length ≤ 4000) :
    ((isortL ws).foldl (partStep room k torn) (l, 0)).1.getD r [] = l.getD r [] ++ (recs (partL room k torn (r : Int) (sel (r : Int) ws)) ++ partT room k torn (r : Int) (sel (r : Int) ws)) := by
  have hw' : ∀ e ∈ isortL ws, badW n e = false ∧ e.x.length ≤ 4000 := fun e he => hw e ((isortW_perm ws).mem_iff.1 he)
  unfold partL partT
  by_cases h1 : (r : Int) < room
  · rw [if_pos h1, if_neg (by omega), part_below room k torn n r hr h1 _ _ _ hl hw', sel_isort, List.append_nil]
  · rw [if_neg h1]
    by_cases h2 : (r : Int) = room
    · subst h2
      rw [if_pos rfl, if_pos rfl, part_at k torn n r hr _ _ _ hl hw', if_pos (Nat.zero_le _), sel_isort, Nat.sub_zero]
    · rw [if_neg h2, if_neg h2, part_above room k torn n r hr (by omega) _ _ _ hl hw', recs_nil]; simp
theorem scan_tail (R : List (List UInt8)) (t : List UInt8) (h : ∀ x ∈ R, x.length ≤ 4000) (ht : nextB t = none) : (scanB (recs R ++ t)).1 = R ∧ cutB (recs R ++ t) = recs R := by
  have := scan_recs R t h ht
  unfold cutB
  rw [this]
  exact ⟨rfl, by simp⟩
theorem cut_exact (R : List (List UInt8)) (h : ∀ x ∈ R, x.length ≤ 4000) : (scanB (recs R)).1 = R ∧ cutB (recs R) = recs R := by
  have := scan_tail R [] h nextB_nil
  rwa [List.append_nil] at this
theorem getD_lens (l : List (List UInt8)) (k : Nat) : (l.map List.length).getD k 0 = (l.getD k []).length := by
  simp only [List.getD_eq_getElem?_getD, List.getElem?_map]
  cases l[k]? <;> rfl
theorem empty_get (n k : Nat) : (emptyD n).getD k [] = [] := by
  unfold emptyD
  simp only [List.getD_eq_getElem?_getD, List.getElem?_replicate]
  split <;> rfl
end Go.Proofs.Ytnlkjhhocehhaaa
