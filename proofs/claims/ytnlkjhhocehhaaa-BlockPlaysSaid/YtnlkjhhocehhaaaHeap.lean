/- A heap in a list, as plain functions, and its laws. No program in sight. -/
namespace Go.Proofs.Ytnlkjhhocehhaaa
namespace Hp
variable {α : Type} [Inhabited α] (lt : α → α → Bool)
def swapL (l : List α) (i j : Nat) : List α := (l.set i (l.getD j default)).set j (l.getD i default)
def upL : Nat → List α → Nat → List α
  | 0, l, _ => l
  | f + 1, l, j => if (j - 1) / 2 = j then l else if lt (l.getD j default) (l.getD ((j - 1) / 2) default) then upL f (swapL l ((j - 1) / 2) j) ((j - 1) / 2) else l
/-- The child of i that stands ahead (2 i + 1 is below n). -/
def kid (l : List α) (i n : Nat) : Nat := if 2 * i + 2 < n ∧ lt (l.getD (2 * i + 2) default) (l.getD (2 * i + 1) default) = true then 2 * i + 2 else 2 * i + 1
def downL : Nat → List α → Nat → Nat → List α × Nat
  | 0, l, i, _ => (l, i)
  | f + 1, l, i, n => if n ≤ 2 * i + 1 then (l, i) else if lt (l.getD (kid lt l i n) default) (l.getD i default) then downL f (swapL l i (kid lt l i n)) (kid lt l i n) n else (l, i)
def pushL (l : List α) (x : α) : List α := upL lt (l.length + 1) (l ++ [x]) l.length
def popL (l : List α) : List α × α :=
  let m := (downL lt l.length (swapL l 0 (l.length - 1)) 0 (l.length - 1)).1
  (m.take (l.length - 1), m.getD (l.length - 1) default)
def removeL (l : List α) (i : Nat) : List α :=
  if l.length - 1 = i then l.take (l.length - 1) else
  let m := downL lt l.length (swapL l i (l.length - 1)) i (l.length - 1)
  if i < m.2 then m.1.take (l.length - 1) else (upL lt l.length m.1 i).take (l.length - 1)

section lens
theorem length_swapL (l : List α) (i j : Nat) : (swapL l i j).length = l.length := by simp [swapL]
theorem length_upL : ∀ (f : Nat) (l : List α) (j : Nat), (upL lt f l j).length = l.length
  | 0, _, _ => rfl
  | f + 1, l, j => by
    unfold upL
    split
    · rfl
    · split
      · rw [length_upL f, length_swapL]
      · rfl
theorem length_downL : ∀ (f : Nat) (l : List α) (i n : Nat), (downL lt f l i n).1.length = l.length
  | 0, _, _, _ => rfl
  | f + 1, l, i, n => by
    unfold downL
    split
    · rfl
    · split
      · rw [length_downL f, length_swapL]
      · rfl
theorem getD_swapL (l : List α) (i j k : Nat) (hi : i < l.length) (hj : j < l.length) : (swapL l i j).getD k default = if k = j then l.getD i default else if k = i then l.getD j default else l.getD k default := by
  simp only [swapL, List.getD_eq_getElem?_getD, List.getElem?_set, List.length_set]
  by_cases h1 : j = k
  · subst h1; simp [hj]
  · by_cases h2 : i = k
    · subst h2; simp [hi, h1, Ne.symm h1]
    · simp [h1, h2, Ne.symm h1, Ne.symm h2]
theorem swapL_perm (l : List α) (i j : Nat) (hi : i < l.length) (hj : j < l.length) : (swapL l i j).Perm l := by
  unfold swapL
  have e1 : l.getD i default = l[i] := by simp [hi]
  have e2 : l.getD j default = l[j] := by simp [hj]
  rw [e1, e2]
  exact List.set_set_perm hi hj
theorem swapL_self (l : List α) (i : Nat) : swapL l i i = l := by
  unfold swapL
  rw [List.set_set]
  by_cases h : i < l.length
  · simp [h]
  · rw [List.set_eq_of_length_le (by omega)]
theorem upL_perm : ∀ (f : Nat) (l : List α) (j : Nat), j < l.length → (upL lt f l j).Perm l
  | 0, _, _, _ => .refl _
  | f + 1, l, j, h => by
    unfold upL
    split
    · exact .refl _
    · split
      · exact (upL_perm f _ _ (by rw [length_swapL]; omega)).trans (swapL_perm l _ _ (by omega) h)
      · exact .refl _
/-- What stands behind j is not touched by up. -/
theorem upL_out : ∀ (f : Nat) (l : List α) (j k : Nat), j < l.length → j < k → (upL lt f l j).getD k default = l.getD k default
  | 0, _, _, _, _, _ => rfl
  | f + 1, l, j, k, h, hk => by
    unfold upL
    split
    · rfl
    · split
      · rw [upL_out f _ _ k (by rw [length_swapL]; omega) (by omega), getD_swapL _ _ _ _ (by omega) h, if_neg (by omega), if_neg (by omega)]
      · rfl
theorem kid_bd (l : List α) (i n : Nat) (h : ¬ n ≤ 2 * i + 1) : i < kid lt l i n ∧ kid lt l i n < n ∧ (kid lt l i n - 1) / 2 = i := by
  unfold kid; split <;> omega
theorem downL_perm : ∀ (f : Nat) (l : List α) (i n : Nat), n ≤ l.length → i < l.length → (downL lt f l i n).1.Perm l
  | 0, _, _, _, _, _ => .refl _
  | f + 1, l, i, n, h, hi => by
    unfold downL
    split
    · exact .refl _
    · rename_i hn
      have hk := kid_bd lt l i n hn
      split
      · exact (downL_perm f _ _ n (by rw [length_swapL]; omega) (by rw [length_swapL]; omega)).trans (swapL_perm l _ _ hi (by omega))
      · exact .refl _
/-- What stands at n and beyond, and above i, is not touched by down. -/
theorem downL_out : ∀ (f : Nat) (l : List α) (i n k : Nat), n ≤ l.length → i < n → (n ≤ k ∨ k < i) → (downL lt f l i n).1.getD k default = l.getD k default
  | 0, _, _, _, _, _, _, _ => rfl
  | f + 1, l, i, n, k, h, hi, hk => by
    unfold downL
    split
    · rfl
    · rename_i hn
      have hb := kid_bd lt l i n hn
      split
      · rw [downL_out f _ _ n k (by rw [length_swapL]; omega) (by omega) (by omega), getD_swapL _ _ _ _ (by omega) (by omega), if_neg (by omega), if_neg (by omega)]
      · rfl
theorem downL_at : ∀ (f : Nat) (l : List α) (i n : Nat), i ≤ (downL lt f l i n).2
  | 0, _, _, _ => Nat.le_refl _
  | f + 1, l, i, n => by
    unfold downL
    split
    · exact Nat.le_refl _
    · rename_i hn
      have hb := kid_bd lt l i n hn
      split
      · exact Nat.le_trans (Nat.le_of_lt hb.1) (downL_at f _ _ n)
      · exact Nat.le_refl _
theorem downL_still (f : Nat) (l : List α) (i n : Nat) (h : ¬ i < (downL lt f l i n).2) : (downL lt f l i n).1 = l := by
  cases f with
  | zero => rfl
  | succ f =>
    unfold downL at h ⊢
    split
    · rfl
    · rename_i hn
      rw [if_neg hn] at h
      split
      · rename_i h2
        rw [if_pos h2] at h
        have hb := kid_bd lt l i n hn
        have := downL_at lt f (swapL l i (kid lt l i n)) (kid lt l i n) n
        omega
      · rfl
end lens

/-- An order: what isn't ahead is carried along; nothing is ahead of what is ahead of it. -/
structure Ord (lt : α → α → Bool) (P : α → Prop) : Prop where
  neg : ∀ a b c, P a → P b → P c → lt b a = false → lt c b = false → lt c a = false
  asy : ∀ a b, P a → P b → lt a b = true → lt b a = false
  tot : ∀ a b, P a → P b → lt a b = false → lt b a = false → a = b
section heap
variable {P : α → Prop} (O : Ord lt P)
def All (P : α → Prop) (l : List α) : Prop := ∀ k, k < l.length → P (l.getD k default)
theorem All.swap {P : α → Prop} {l : List α} (h : All P l) (i j : Nat) (hi : i < l.length) (hj : j < l.length) : All P (swapL l i j) := by
  intro k hk
  rw [length_swapL] at hk
  rw [getD_swapL _ _ _ _ hi hj]
  split
  · exact h _ hi
  · split
    · exact h _ hj
    · exact h _ hk
theorem All.of_mem {P : α → Prop} {l : List α} (h : ∀ x ∈ l, P x) : All P l := fun k hk => h _ (by simp [hk])
theorem All.mem {P : α → Prop} {l : List α} (h : All P l) : ∀ x ∈ l, P x := fun x hx => by
  obtain ⟨k, hk, rfl⟩ := List.getElem_of_mem hx
  have := h k hk
  simpa [hk] using this
/-- The first n stand as a heap. -/
def IsHeap (n : Nat) (l : List α) : Prop := ∀ k, 0 < k → k < n → lt (l.getD k default) (l.getD ((k - 1) / 2) default) = false
/-- .. but j may stand ahead of its parent. -/
def HeapUp (n j : Nat) (l : List α) : Prop :=
  (∀ k, 0 < k → k < n → k ≠ j → lt (l.getD k default) (l.getD ((k - 1) / 2) default) = false) ∧
  (∀ k, 0 < k → k < n → (k - 1) / 2 = j → 0 < j → lt (l.getD k default) (l.getD ((j - 1) / 2) default) = false)
/-- .. but what stands below i may stand ahead of it. -/
def HeapDown (n i : Nat) (l : List α) : Prop :=
  (∀ k, 0 < k → k < n → (k - 1) / 2 ≠ i → lt (l.getD k default) (l.getD ((k - 1) / 2) default) = false) ∧
  (∀ k, 0 < k → k < n → (k - 1) / 2 = i → 0 < i → lt (l.getD k default) (l.getD ((i - 1) / 2) default) = false)
include O
omit [Inhabited α] in
theorem refl_ {a : α} (h : P a) : lt a a = false := by
  cases h' : lt a a
  · rfl
  · have := O.asy a a h h h'; rw [h'] at this; cases this
theorem up_heap : ∀ (f : Nat) (l : List α) (j n : Nat), All P l → n ≤ l.length → j < n → j ≤ f → HeapUp lt n j l → IsHeap lt n (upL lt (f + 1) l j) := by
  intro f
  induction f with
  | zero =>
    intro l j n hA hn hj hf h
    have h0 : (j - 1) / 2 = j := by omega
    unfold upL
    rw [if_pos h0]
    intro k hk hkn
    exact h.1 k hk hkn (by omega)
  | succ f ih =>
    intro l j n hA hn hj hf h
    unfold upL
    by_cases h0 : (j - 1) / 2 = j
    · rw [if_pos h0]
      intro k hk hkn
      exact h.1 k hk hkn (by omega)
    · rw [if_neg h0]
      have hj0 : 0 < j := by omega
      cases hlt : lt (l.getD j default) (l.getD ((j - 1) / 2) default)
      · rw [if_neg (by simp)]
        intro k hk hkn
        by_cases hkj : k = j
        · subst hkj; exact hlt
        · exact h.1 k hk hkn hkj
      · rw [if_pos rfl]
        obtain ⟨i, hi⟩ : ∃ i, i = (j - 1) / 2 := ⟨_, rfl⟩
        rw [← hi] at hlt ⊢
        have hij : i < j := by omega
        have hil : i < l.length := by omega
        have hjl : j < l.length := by omega
        refine ih (swapL l i j) i n (hA.swap _ _ hil hjl) (by rw [length_swapL]; exact hn) (by omega) (by omega) ⟨fun k hk hkn hki => ?_, fun k hk hkn hki h0i => ?_⟩
        · rw [getD_swapL _ _ _ _ hil hjl, getD_swapL _ _ _ _ hil hjl]
          by_cases hkj : k = j
          · subst hkj
            rw [if_pos rfl, ← hi, if_neg (by omega), if_pos rfl]
            exact O.asy _ _ (hA _ hjl) (hA _ hil) hlt
          · rw [if_neg hkj, if_neg hki]
            by_cases hp : (k - 1) / 2 = j
            · rw [if_pos hp]
              have := h.2 k hk hkn hp hj0
              rwa [← hi] at this
            · rw [if_neg hp]
              by_cases hq : (k - 1) / 2 = i
              · rw [if_pos hq]
                have h1 := h.1 k hk hkn hkj
                rw [hq] at h1
                exact O.neg _ (l.getD i default) _ (hA _ hjl) (hA _ hil) (hA _ (by omega)) (O.asy _ _ (hA _ hjl) (hA _ hil) hlt) h1
              · rw [if_neg hq]
                exact h.1 k hk hkn hkj
        · have h1 := h.1 i h0i (by omega) (by omega)
          rw [getD_swapL _ _ _ _ hil hjl, getD_swapL _ _ _ _ hil hjl, if_neg (show ¬ (i - 1) / 2 = j by omega), if_neg (show ¬ (i - 1) / 2 = i by omega)]
          by_cases hkj : k = j
          · rw [if_pos hkj]; exact h1
          · rw [if_neg hkj, if_neg (by omega)]
            have h2 := h.1 k hk hkn hkj
            rw [hki] at h2
            exact O.neg _ (l.getD i default) _ (hA _ (by omega)) (hA _ hil) (hA _ (by omega)) h1 h2
theorem kid_min (l : List α) (i n : Nat) (hA : All P l) (hn : n ≤ l.length) (h : ¬ n ≤ 2 * i + 1) : ∀ k, 0 < k → k < n → (k - 1) / 2 = i → lt (l.getD k default) (l.getD (kid lt l i n) default) = false := by
  intro k hk hkn hki
  have hk2 : k = 2 * i + 1 ∨ k = 2 * i + 2 := by omega
  unfold kid
  split
  · rename_i h1
    rcases hk2 with rfl | rfl
    · exact O.asy _ _ (hA _ (by omega)) (hA _ (by omega)) h1.2
    · exact refl_ lt O (hA _ (by omega))
  · rename_i h1
    rcases hk2 with rfl | rfl
    · exact refl_ lt O (hA _ (by omega))
    · cases hl : lt (l.getD (2 * i + 2) default) (l.getD (2 * i + 1) default)
      · rfl
      · exact absurd ⟨hkn, hl⟩ h1
theorem down_heap : ∀ (f : Nat) (l : List α) (i n : Nat), All P l → n ≤ l.length → i < n → n ≤ i + f → HeapDown lt n i l → IsHeap lt n (downL lt f l i n).1 := by
  intro f
  induction f with
  | zero => intro l i n _ _ hi hf _; omega
  | succ f ih =>
    intro l i n hA hn hi hf h
    unfold downL
    by_cases h0 : n ≤ 2 * i + 1
    · rw [if_pos h0]
      intro k hk hkn
      exact h.1 k hk hkn (by omega)
    · rw [if_neg h0]
      obtain ⟨hj1, hj2, hj3⟩ := kid_bd lt l i n h0
      have hmin := kid_min lt O l i n hA hn h0
      obtain ⟨j, hj⟩ : ∃ j, j = kid lt l i n := ⟨_, rfl⟩
      rw [← hj] at hj1 hj2 hj3 hmin ⊢
      cases hlt : lt (l.getD j default) (l.getD i default)
      · rw [if_neg (by simp)]
        intro k hk hkn
        by_cases hki : (k - 1) / 2 = i
        · rw [hki]
          exact O.neg _ (l.getD j default) _ (hA _ (by omega)) (hA _ (by omega)) (hA _ (by omega)) hlt (hmin k hk hkn hki)
        · exact h.1 k hk hkn hki
      · rw [if_pos rfl]
        have hil : i < l.length := by omega
        have hjl : j < l.length := by omega
        refine ih (swapL l i j) j n (hA.swap _ _ hil hjl) (by rw [length_swapL]; exact hn) hj2 (by omega) ⟨fun k hk hkn hkj => ?_, fun k hk hkn hkj h0j => ?_⟩
        · rw [getD_swapL _ _ _ _ hil hjl, getD_swapL _ _ _ _ hil hjl, if_neg hkj]
          by_cases hki : (k - 1) / 2 = i
          · rw [if_pos hki]
            by_cases hk2 : k = j
            · rw [if_pos hk2]
              exact O.asy _ _ (hA _ hjl) (hA _ hil) hlt
            · rw [if_neg hk2, if_neg (by omega)]
              exact hmin k hk hkn hki
          · rw [if_neg hki, if_neg (by intro hkj'; rw [hkj'] at hki; exact hki hj3)]
            by_cases hk3 : k = i
            · rw [if_pos hk3]
              have := h.2 j (by omega) hj2 hj3 (by omega)
              rw [hk3]; exact this
            · rw [if_neg hk3]
              exact h.1 k hk hkn hki
        · have h1 := h.1 k hk hkn (by omega)
          rw [hkj] at h1
          rw [getD_swapL _ _ _ _ hil hjl, getD_swapL _ _ _ _ hil hjl, hj3, if_neg (by omega), if_neg (by omega), if_neg (by omega), if_pos rfl]
          exact h1
theorem heap_min (l : List α) (n : Nat) (hA : All P l) (hn : n ≤ l.length) (h : IsHeap lt n l) : ∀ k, k < n → lt (l.getD k default) (l.getD 0 default) = false := by
  intro k
  induction k using Nat.strongRecOn with
  | ind k ih =>
    intro hk
    by_cases h0 : k = 0
    · subst h0; exact refl_ lt O (hA _ (by omega))
    · have h1 := ih ((k - 1) / 2) (by omega) (by omega)
      have h2 := h k (by omega) hk
      exact O.neg _ (l.getD ((k - 1) / 2) default) _ (hA _ (by omega)) (hA _ (by omega)) (hA _ (by omega)) h1 h2

theorem push_heap (l : List α) (x : α) (hA : All P l) (hx : P x) (h : IsHeap lt l.length l) : IsHeap lt (l.length + 1) (pushL lt l x) ∧ (pushL lt l x).Perm (x :: l) := by
  have hA' : All P (l ++ [x]) := All.of_mem (fun y hy => by
    rcases List.mem_append.1 hy with hy | hy
    · exact hA.mem y hy
    · have : y = x := by simpa using hy
      subst this; exact hx)
  constructor
  · refine up_heap lt O l.length (l ++ [x]) l.length (l.length + 1) hA' (by simp) (by omega) (Nat.le_refl _) ⟨fun k hk hkn hkj => ?_, fun k hk hkn hkj h0 => ?_⟩
    · have e1 : (l ++ [x]).getD k default = l.getD k default := by simp only [List.getD_eq_getElem?_getD]; rw [List.getElem?_append_left (by omega)]
      have e2 : (l ++ [x]).getD ((k - 1) / 2) default = l.getD ((k - 1) / 2) default := by simp only [List.getD_eq_getElem?_getD]; rw [List.getElem?_append_left (by omega)]
      rw [e1, e2]
      exact h k hk (by omega)
    · omega
  · exact (upL_perm lt _ _ _ (by simp)).trans (List.perm_append_singleton _ _)
theorem pop_heap (l : List α) (hA : All P l) (h0 : 0 < l.length) (h : IsHeap lt l.length l) :
    (popL lt l).2 = l.getD 0 default ∧ IsHeap lt (l.length - 1) (popL lt l).1 ∧ (popL lt l).1.length = l.length - 1 ∧ ((popL lt l).2 :: (popL lt l).1).Perm l := by
  obtain ⟨n, hn⟩ : ∃ n, n = l.length - 1 := ⟨_, rfl⟩
  have hl : l.length = n + 1 := by omega
  have hs : (swapL l 0 n).length = n + 1 := by rw [length_swapL, hl]
  obtain ⟨m, hm⟩ : ∃ m, m = (downL lt l.length (swapL l 0 n) 0 n).1 := ⟨_, rfl⟩
  have hml : m.length = n + 1 := by rw [hm, length_downL, hs]
  have hmp : m.Perm l := by rw [hm]; exact (downL_perm lt _ _ _ _ (by omega) (by omega)).trans (swapL_perm l 0 n h0 (by omega))
  have hlast : m.getD n default = l.getD 0 default := by
    rw [hm]
    by_cases hn0 : n = 0
    · subst hn0
      rw [swapL_self]
      cases hf : l.length with
      | zero => omega
      | succ f => unfold downL; rw [if_pos (by omega)]
    · rw [downL_out lt _ _ _ _ _ (by omega) (by omega) (Or.inl (Nat.le_refl _)), getD_swapL _ _ _ _ h0 (by omega), if_pos rfl]
  have hpop : popL lt l = (m.take n, m.getD n default) := by unfold popL; rw [← hn, ← hm]
  rw [hpop]
  refine ⟨hlast, ?_, by simp [hml]; omega, ?_⟩
  · show IsHeap lt (l.length - 1) (m.take n)
    rw [← hn]
    have hh : IsHeap lt n m := by
      by_cases hn0 : n = 0
      · intro k _ hk; omega
      · rw [hm]
        refine down_heap lt O _ _ _ _ (hA.swap _ _ h0 (by omega)) (by omega) (by omega) (by omega) ⟨fun k hk hkn hki => ?_, fun k hk hkn hki h0 => by omega⟩
        rw [getD_swapL _ _ _ _ h0 (by omega), getD_swapL _ _ _ _ h0 (by omega), if_neg (by omega), if_neg (by omega), if_neg (by omega), if_neg hki]
        exact h k hk (by omega)
    intro k hk hkn
    have := hh k hk hkn
    simp only [List.getD_eq_getElem?_getD] at this ⊢
    rw [List.getElem?_take_of_lt hkn, List.getElem?_take_of_lt (by omega)]
    exact this
  · show (m.getD n default :: m.take n).Perm l
    have e : m = m.take n ++ [m.getD n default] := by
      rw [List.getD_eq_getElem?_getD, List.getElem?_eq_getElem (by omega), Option.getD_some, List.take_append_getElem (by omega), List.take_of_length_le (by omega)]
    exact (List.perm_append_singleton _ _).symm.trans ((List.Perm.of_eq e.symm).trans hmp)
theorem remove_heap (l : List α) (i : Nat) (hA : All P l) (hi : i < l.length) (h : IsHeap lt l.length l) :
    IsHeap lt (l.length - 1) (removeL lt l i) ∧ (l.getD i default :: removeL lt l i).Perm l := by
  obtain ⟨n, hn⟩ : ∃ n, n = l.length - 1 := ⟨_, rfl⟩
  have hl : l.length = n + 1 := by omega
  have fin : ∀ m : List α, m.Perm l → m.getD n default = l.getD i default → IsHeap lt n m → IsHeap lt (l.length - 1) (m.take n) ∧ (l.getD i default :: m.take n).Perm l := by
    intro m hmp hlast hh
    have hml : m.length = n + 1 := by rw [hmp.length_eq, hl]
    refine ⟨?_, ?_⟩
    · rw [← hn]
      intro k hk hkn
      have := hh k hk hkn
      simp only [List.getD_eq_getElem?_getD] at this ⊢
      rw [List.getElem?_take_of_lt hkn, List.getElem?_take_of_lt (by omega)]
      exact this
    · rw [← hlast]
      have e : m = m.take n ++ [m.getD n default] := by
        rw [List.getD_eq_getElem?_getD, List.getElem?_eq_getElem (by omega), Option.getD_some, List.take_append_getElem (by omega), List.take_of_length_le (by omega)]
      exact (List.perm_append_singleton _ _).symm.trans ((List.Perm.of_eq e.symm).trans hmp)
  unfold removeL
  rw [← hn]
  by_cases hin : n = i
  · rw [if_pos hin]
    subst hin
    have := fin l (.refl _) rfl (fun k hk hkn => h k hk (by omega))
    rwa [← hn] at this
  · rw [if_neg hin]
    have hs : (swapL l i n).length = n + 1 := by rw [length_swapL, hl]
    have hAs := hA.swap i n hi (by omega)
    have hsp := swapL_perm l i n hi (by omega)
    obtain ⟨m, hm⟩ : ∃ m, m = downL lt l.length (swapL l i n) i n := ⟨_, rfl⟩
    have hml : m.1.length = n + 1 := by rw [hm, length_downL, hs]
    have hmp : m.1.Perm l := by rw [hm]; exact (downL_perm lt _ _ _ _ (by omega) (by omega)).trans hsp
    have hlast : m.1.getD n default = l.getD i default := by
      rw [hm, downL_out lt _ _ _ _ _ (by omega) (by omega) (Or.inl (Nat.le_refl _)), getD_swapL _ _ _ _ hi (by omega), if_pos rfl]
    rw [← hm]
    rw [← hn] at fin
    show IsHeap lt n (if i < m.2 then m.1.take n else (upL lt l.length m.1 i).take n) ∧ (l.getD i default :: (if i < m.2 then m.1.take n else (upL lt l.length m.1 i).take n)).Perm l
    -- what stands below i is not ahead of i's parent
    have hlow : ∀ k, 0 < k → k < n → (k - 1) / 2 = i → 0 < i → lt (l.getD k default) (l.getD ((i - 1) / 2) default) = false := fun k hk hkn hki h0 => by
      have h1 := h i h0 hi
      have h2 := h k hk (by omega)
      rw [hki] at h2
      exact O.neg _ (l.getD i default) _ (hA _ (by omega)) (hA _ hi) (hA _ (by omega)) h1 h2
    have hw : (∀ k, 0 < k → k < n → (k - 1) / 2 ≠ i → k ≠ i → lt ((swapL l i n).getD k default) ((swapL l i n).getD ((k - 1) / 2) default) = false) ∧
        (∀ k, 0 < k → k < n → (k - 1) / 2 = i → 0 < i → lt ((swapL l i n).getD k default) ((swapL l i n).getD ((i - 1) / 2) default) = false) := by
      constructor
      · intro k hk hkn hki hk2
        rw [getD_swapL _ _ _ _ hi (by omega), getD_swapL _ _ _ _ hi (by omega), if_neg (by omega), if_neg hk2, if_neg (by omega), if_neg hki]
        exact h k hk (by omega)
      · intro k hk hkn hki h0
        rw [getD_swapL _ _ _ _ hi (by omega), getD_swapL _ _ _ _ hi (by omega), if_neg (by omega), if_neg (by omega), if_neg (by omega), if_neg (by omega)]
        exact hlow k hk hkn hki h0
    obtain ⟨l', hl'⟩ : ∃ l', l' = swapL l i n := ⟨_, rfl⟩
    rw [← hl'] at hw hs hAs hsp hm
    have key : (i < m.2 → IsHeap lt n m.1) ∧ (¬ i < m.2 → HeapUp lt n i m.1) := by
      rw [hm, hl]
      unfold downL
      by_cases h0 : n ≤ 2 * i + 1
      · rw [if_pos h0]
        refine ⟨fun hh => absurd hh (by show ¬ i < i; omega), fun _ => ⟨fun k hk hkn hki => hw.1 k hk hkn (by omega) hki, hw.2⟩⟩
      · rw [if_neg h0]
        obtain ⟨hj1, hj2, hj3⟩ := kid_bd lt l' i n h0
        have hmin := kid_min lt O l' i n hAs (by omega) h0
        obtain ⟨j, hj⟩ : ∃ j, j = kid lt l' i n := ⟨_, rfl⟩
        rw [← hj] at hj1 hj2 hj3 hmin ⊢
        have hil : i < l'.length := by omega
        have hjl : j < l'.length := by omega
        cases hlt : lt (l'.getD j default) (l'.getD i default)
        · rw [if_neg (by simp)]
          refine ⟨fun hh => absurd hh (by show ¬ i < i; omega), fun _ => ⟨fun k hk hkn hki => ?_, hw.2⟩⟩
          by_cases hk2 : (k - 1) / 2 = i
          · rw [hk2]
            exact O.neg _ (l'.getD j default) _ (hAs _ (by omega)) (hAs _ (by omega)) (hAs _ (by omega)) hlt (hmin k hk hkn hk2)
          · exact hw.1 k hk hkn hk2 hki
        · rw [if_pos rfl]
          refine ⟨fun _ => down_heap lt O n (swapL l' i j) j n (hAs.swap _ _ hil hjl) (by rw [length_swapL]; omega) hj2 (by omega) ⟨fun k hk hkn hkj => ?_, fun k hk hkn hkj h0j => ?_⟩, fun hh => absurd (Nat.lt_of_lt_of_le hj1 (downL_at lt n (swapL l' i j) j n)) hh⟩
          · rw [getD_swapL _ _ _ _ hil hjl, getD_swapL _ _ _ _ hil hjl, if_neg hkj]
            by_cases hki : (k - 1) / 2 = i
            · rw [if_pos hki]
              by_cases hk2 : k = j
              · rw [if_pos hk2]
                exact O.asy _ _ (hAs _ hjl) (hAs _ hil) hlt
              · rw [if_neg hk2, if_neg (by omega)]
                exact hmin k hk hkn hki
            · rw [if_neg hki, if_neg (by intro hkj'; rw [hkj'] at hki; exact hki hj3)]
              by_cases hk3 : k = i
              · rw [if_pos hk3]
                have := hw.2 j (by omega) hj2 hj3 (by omega)
                rw [hk3]; exact this
              · rw [if_neg hk3]
                exact hw.1 k hk hkn hki hk3
          · have h1 := hw.1 k hk hkn (by omega) (by omega)
            rw [hkj] at h1
            rw [getD_swapL _ _ _ _ hil hjl, getD_swapL _ _ _ _ hil hjl, hj3, if_neg (by omega), if_neg (by omega), if_neg (by omega), if_pos rfl]
            exact h1
    have hAm : All P m.1 := All.of_mem (fun x hx => hA.mem x (hmp.mem_iff.1 hx))
    by_cases hmi : i < m.2
    · rw [if_pos hmi]
      exact fin m.1 hmp hlast (key.1 hmi)
    · rw [if_neg hmi]
      have hup := key.2 hmi
      have hst : m.1.length = n + 1 := hml
      rw [hl]
      refine fin _ ((upL_perm lt _ _ _ (by omega)).trans hmp) ?_ (up_heap lt O n m.1 i n hAm (by omega) (by omega) (by omega) hup)
      rw [upL_out lt _ _ _ _ (by omega) (by omega), hlast]
end heap
end Hp
end Go.Proofs.Ytnlkjhhocehhaaa
