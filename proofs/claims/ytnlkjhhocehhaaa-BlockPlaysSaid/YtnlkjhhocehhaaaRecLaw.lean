/- The laws of records, plain. -/
import Derived.Test.YtnlkjhhocehhaaaScan2
namespace Go.Proofs.Ytnlkjhhocehhaaa
set_option linter.unusedVariables false
open Go Go.RowKit Go.Proofs Sha
def recs (l : List (List UInt8)) : List UInt8 := (l.map recB).flatten
theorem recs_nil : recs [] = [] := rfl
theorem recs_cons (x : List UInt8) (l : List (List UInt8)) : recs (x :: l) = recB x ++ recs l := by simp [recs]
theorem recs_append (a b : List (List UInt8)) : recs (a ++ b) = recs a ++ recs b := by simp [recs]
theorem recB_parts (x : List UInt8) : recB x = UInt8.ofNat (x.length % 256) :: UInt8.ofNat (x.length / 256) :: ((sha x).take 4 ++ x) := by unfold recB; simp
theorem sha4 (x : List UInt8) : ((sha x).take 4).length = 4 := by rw [List.length_take, length_sha]; rfl
theorem nextN_rec (x r : List UInt8) (h : x.length ≤ 4000) : nextN (recB x ++ r) = 6 + x.length := by
  unfold nextN
  rw [recB_parts]
  simp only [List.cons_append, List.getD_cons_zero, List.getD_cons_succ]
  rw [UInt8.toNat_ofNat_of_lt' (by show _ < 256; omega), UInt8.toNat_ofNat_of_lt' (by show _ < 256; omega)]
  omega
theorem take6 (x r : List UInt8) : ((recB x ++ r).take 6).drop 2 = (sha x).take 4 := by
  rw [recB_parts]
  obtain ⟨s, hs⟩ : ∃ s, s = (sha x).take 4 := ⟨_, rfl⟩
  have h4 : s.length = 4 := by rw [hs]; exact sha4 x
  rw [← hs]
  simp only [List.cons_append, List.take_succ_cons, List.drop_succ_cons, List.drop_zero, List.append_assoc]
  rw [List.take_append_of_le_length (by omega), List.take_of_length_le (by omega)]
theorem drop6 (x r : List UInt8) : ((recB x ++ r).take (6 + x.length)).drop 6 = x := by
  rw [List.take_append_of_le_length (by rw [length_recB]; exact Nat.le_refl _), List.take_of_length_le (by rw [length_recB]; exact Nat.le_refl _)]
  rw [recB_parts]
  simp only [List.drop_succ_cons]
  rw [List.drop_append_of_le_length (by rw [sha4]; exact Nat.le_refl _), List.drop_of_length_le (by rw [sha4]; exact Nat.le_refl _)]
  rfl
/-- A record is told. -/
theorem nextB_rec (x r : List UInt8) (h : x.length ≤ 4000) : nextB (recB x ++ r) = some x := by
  unfold nextB
  rw [nextN_rec x r h, drop6, take6, if_neg (by rw [List.length_append, length_recB]; omega), if_neg (by rw [List.length_append, length_recB]; omega), if_pos rfl]
/-- A part of a record is none. -/
theorem nextB_torn (x : List UInt8) (k : Nat) (h : x.length ≤ 4000) (hk : k < 6 + x.length) : nextB ((recB x).take k) = none := by
  have hl : ((recB x).take k).length = k := by rw [List.length_take, length_recB]; omega
  unfold nextB
  by_cases h6 : k < 6
  · rw [if_pos (by omega)]
  · rw [if_neg (by omega), if_pos]
    left
    rw [hl]
    have hn : nextN ((recB x).take k) = 6 + x.length := by
      have := nextN_rec x [] h
      rw [List.append_nil] at this
      rw [← this]
      unfold nextN
      have e : ∀ j, j < k → ((recB x).take k).getD j 0 = (recB x).getD j 0 := fun j hj => by
        simp only [List.getD_eq_getElem?_getD]; rw [List.getElem?_take_of_lt hj]
      rw [e 0 (by omega), e 1 (by omega)]
    omega
theorem nextB_nil : nextB [] = none := rfl
theorem scan_recs : ∀ (l : List (List UInt8)) (r : List UInt8), (∀ x ∈ l, x.length ≤ 4000) → nextB r = none → scanB (recs l ++ r) = (l, (recs l).length)
  | [], r, _, hr => by rw [recs_nil, List.nil_append, scanB_none hr]; rfl
  | x :: l, r, h, hr => by
    have hx := h x (by simp)
    rw [recs_cons, List.append_assoc, scanB_some (nextB_rec x _ hx)]
    have hd : (recB x ++ (recs l ++ r)).drop (6 + x.length) = recs l ++ r := by
      rw [← length_recB x, List.drop_append_of_le_length (Nat.le_refl _), List.drop_of_length_le (Nat.le_refl _)]; rfl
    rw [hd, scan_recs l r (fun y hy => h y (by simp [hy])) hr]
    simp only [List.length_append, length_recB]
theorem scan_exact (l : List (List UInt8)) (h : ∀ x ∈ l, x.length ≤ 4000) : scanB (recs l) = (l, (recs l).length) := by
  have := scan_recs l [] h nextB_nil
  rwa [List.append_nil] at this
theorem length_recs : ∀ l : List (List UInt8), (recs l).length = (l.map (fun x => 6 + x.length)).sum
  | [] => rfl
  | x :: l => by rw [recs_cons, List.length_append, length_recB, length_recs l]; simp
/-- What is told has records of at most 4000 bytes, and their bytes stand there. -/
theorem scan_told : ∀ (n : Nat) (b : List UInt8), b.length ≤ n → (∀ x ∈ (scanB b).1, x.length ≤ 4000) ∧ (scanB b).2 ≤ b.length
  | n, b, h => by
    cases hn : nextB b with
    | none => rw [scanB_none hn]; exact ⟨fun x hx => by simp at hx, by simp⟩
    | some x =>
      have h1 := nextB_len hn
      rw [scanB_some hn]
      match n, h with
      | 0, h => omega
      | n + 1, h =>
        have hd : (b.drop (6 + x.length)).length = b.length - (6 + x.length) := List.length_drop
        obtain ⟨i1, i2⟩ := scan_told n (b.drop (6 + x.length)) (by omega)
        refine ⟨fun y hy => ?_, by simp only; omega⟩
        rcases List.mem_cons.1 hy with rfl | hy
        · exact h1.2
        · exact i1 y hy
end Go.Proofs.Ytnlkjhhocehhaaa
