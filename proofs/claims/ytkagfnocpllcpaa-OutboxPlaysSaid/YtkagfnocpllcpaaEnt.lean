/- Entries of a box, how they are compared, how they lie in memory: plain definitions and laws. -/
import Derived.Test.YtkagfnocpllcpaaHeap
import Derived.Test.YtkagfnocpllcpaaMem
namespace Go.Proofs.Ytkagfnocpllcpaa
open Go
structure E where
  id : ByteArray
  body : ByteArray
  due : Int
  tries : Int
  put : Int
instance : Inhabited E := ⟨⟨⟨#[]⟩, ⟨#[]⟩, 0, 0, 0⟩⟩
def cmpI (a b : Int) : Int := if a < b then -1 else if b < a then 1 else 0
def ltS (a b : ByteArray) : Bool := Op.bytesLess a.toList b.toList
def cmpS (a b : ByteArray) : Int := if ltS a b then -1 else if ltS b a then 1 else 0
def cmpE (a b : E) : Int := if cmpI a.due b.due ≠ 0 then cmpI a.due b.due else if cmpI a.put b.put ≠ 0 then cmpI a.put b.put else cmpS a.id b.id
def ltE (a b : E) : Bool := decide (cmpE a b < 0)
def entL (e : E) : List Value := [.string e.id, .string e.body, .int .i64 e.due, .int .i64 e.tries, .int .i64 e.put]
abbrev entV (e : E) : Value := .agg (entL e).toArray
def qC (l : List E) : List Value := l.flatMap entL
theorem bytesLess_lt : ∀ (x y : List UInt8), Op.bytesLess x y = decide (x < y)
  | [], [] => by simp [Op.bytesLess]
  | _ :: _, [] => by simp [Op.bytesLess]
  | [], _ :: _ => by simp [Op.bytesLess]
  | a :: x, b :: y => by
    rw [Op.bytesLess, bytesLess_lt x y]
    simp only [List.cons_lt_cons_iff]
    by_cases h1 : a < b <;> by_cases h2 : a = b <;> by_cases h3 : x < y <;> simp [h1, h2, h3]
theorem ltS_irrefl (a : ByteArray) : ltS a a = false := by unfold ltS; rw [bytesLess_lt, decide_eq_false_iff_not]; exact List.lt_irrefl _
theorem ltS_asymm {a b : ByteArray} (h : ltS a b = true) : ltS b a = false := by
  unfold ltS at *; rw [bytesLess_lt] at *; rw [decide_eq_false_iff_not]; rw [decide_eq_true_eq] at h; exact List.lt_asymm h
theorem ltS_trans {a b c : ByteArray} (h : ltS a b = true) (k : ltS b c = true) : ltS a c = true := by
  unfold ltS at *; rw [bytesLess_lt] at *; rw [decide_eq_true_eq] at *; exact List.lt_trans h k
theorem ltS_total {a b : ByteArray} (h : ltS a b = false) (k : ltS b a = false) : a = b := by
  unfold ltS at *; rw [bytesLess_lt] at *; rw [decide_eq_false_iff_not] at *
  have e : a.toList = b.toList := List.le_antisymm (List.not_lt.1 k) (List.not_lt.1 h)
  rw [ByteArray.toList_eq, ByteArray.toList_eq] at e
  exact ByteArray.ext (Array.ext' e)
theorem cmpI_lt (a b : Int) : cmpI a b < 0 ↔ a < b := by unfold cmpI; split <;> (try split) <;> omega
theorem cmpI_eq (a b : Int) : cmpI a b = 0 ↔ a = b := by unfold cmpI; split <;> (try split) <;> omega
theorem cmpS_lt (a b : ByteArray) : cmpS a b < 0 ↔ ltS a b = true := by
  unfold cmpS; split
  · simp [*]
  · split <;> simp [*]
theorem ltE_iff (a b : E) : ltE a b = true ↔ a.due < b.due ∨ (a.due = b.due ∧ (a.put < b.put ∨ (a.put = b.put ∧ ltS a.id b.id = true))) := by
  unfold ltE cmpE
  rw [decide_eq_true_eq]
  have h1 := cmpI_eq a.due b.due
  have h2 := cmpI_lt a.due b.due
  have h3 := cmpI_eq a.put b.put
  have h4 := cmpI_lt a.put b.put
  have h5 := cmpS_lt a.id b.id
  by_cases e1 : cmpI a.due b.due = 0
  · rw [if_neg (by simp [e1])]
    by_cases e2 : cmpI a.put b.put = 0
    · rw [if_neg (by simp [e2]), h5]
      constructor
      · intro h; exact .inr ⟨h1.1 e1, .inr ⟨h3.1 e2, h⟩⟩
      · rintro (h | ⟨_, h | ⟨_, h⟩⟩)
        · have := h1.1 e1; omega
        · have := h3.1 e2; omega
        · exact h
    · rw [if_pos e2, h4]
      constructor
      · intro h; exact .inr ⟨h1.1 e1, .inl h⟩
      · rintro (h | ⟨_, h | ⟨h, _⟩⟩)
        · have := h1.1 e1; omega
        · exact h
        · exact absurd (h3.2 h) e2
  · rw [if_pos e1, h2]
    constructor
    · intro h; exact .inl h
    · rintro (h | ⟨h, _⟩)
      · exact h
      · exact absurd (h1.2 h) e1
/-- The entries' order parts whatever two that bear two ids. -/
theorem ordE (P : E → Prop) (hP : ∀ a b, P a → P b → a.id = b.id → a = b) : Hp.Ord ltE P where
  neg a b c _ _ _ h k := by
    rw [Bool.eq_false_iff] at *
    intro hc
    apply k
    rw [ltE_iff] at hc ⊢
    rcases Int.lt_trichotomy b.due a.due with h1 | h1 | h1
    · exact absurd ((ltE_iff _ _).2 (.inl h1)) h
    · rcases Int.lt_trichotomy b.put a.put with h2 | h2 | h2
      · exact absurd ((ltE_iff _ _).2 (.inr ⟨h1, .inl h2⟩)) h
      · cases h3 : ltS b.id a.id
        · cases h4 : ltS a.id b.id
          · have e := ltS_total h3 h4
            rw [← h1, ← h2, ← e] at hc; exact hc
          · rcases hc with hc | ⟨hc, hc' | ⟨hc', hc''⟩⟩
            · exact .inl (by omega)
            · exact .inr ⟨by omega, .inl (by omega)⟩
            · exact .inr ⟨by omega, .inr ⟨by omega, ltS_trans hc'' h4⟩⟩
        · exact absurd ((ltE_iff _ _).2 (.inr ⟨h1, .inr ⟨h2, h3⟩⟩)) h
      · rcases hc with hc | ⟨hc, hc' | ⟨hc', _⟩⟩
        · exact .inl (by omega)
        · exact .inr ⟨by omega, .inl (by omega)⟩
        · exact .inr ⟨by omega, .inl (by omega)⟩
    · rcases hc with hc | ⟨hc, _⟩ <;> exact .inl (by omega)
  asy a b _ _ h := by
    rw [Bool.eq_false_iff]
    intro k
    rw [ltE_iff] at *
    rcases h with h | ⟨h, h' | ⟨h', h''⟩⟩ <;> rcases k with k | ⟨k, k' | ⟨k', k''⟩⟩ <;> try omega
    rw [ltS_asymm h''] at k''
    cases k''
  tot a b pa pb h k := by
    rw [Bool.eq_false_iff] at *
    rw [ne_eq, ltE_iff] at *
    have h1 : a.due = b.due := by
      rcases Int.lt_trichotomy a.due b.due with h1 | h1 | h1
      · exact absurd (.inl h1) h
      · exact h1
      · exact absurd (.inl h1) k
    have h2 : a.put = b.put := by
      rcases Int.lt_trichotomy a.put b.put with h2 | h2 | h2
      · exact absurd (.inr ⟨h1, .inl h2⟩) h
      · exact h2
      · exact absurd (.inr ⟨h1.symm, .inl h2⟩) k
    refine hP a b pa pb (ltS_total ?_ ?_)
    · rw [Bool.eq_false_iff]; intro e; exact h (.inr ⟨h1, .inr ⟨h2, e⟩⟩)
    · rw [Bool.eq_false_iff]; intro e; exact k (.inr ⟨h1.symm, .inr ⟨h2.symm, e⟩⟩)

/-! ### How they lie -/
theorem length_entL (e : E) : (entL e).length = 5 := rfl
theorem length_qC (l : List E) : (qC l).length = l.length * 5 := by
  induction l with
  | nil => rfl
  | cons e l ih => rw [qC, List.flatMap_cons, List.length_append, ← qC, ih, length_entL, List.length_cons]; omega
theorem qC_cons (e : E) (l : List E) : qC (e :: l) = entL e ++ qC l := rfl
theorem qC_append (a b : List E) : qC (a ++ b) = qC a ++ qC b := by simp [qC]
theorem qC_one (l : List E) : ∀ u ∈ qC l, u.oneCell' = true := by
  intro u hu
  obtain ⟨e, _, h⟩ := List.mem_flatMap.1 hu
  simp only [entL, List.mem_cons, List.not_mem_nil, or_false] at h
  rcases h with rfl | rfl | rfl | rfl | rfl <;> rfl
theorem qC_get : ∀ (l : List E) (i j : Nat), i < l.length → j < 5 → (qC l)[i * 5 + j]? = (entL (l.getD i default))[j]?
  | [], _, _, h, _ => by simp at h
  | e :: l, 0, j, _, hj => by
    rw [qC_cons, Nat.zero_mul, Nat.zero_add, List.getElem?_append_left (by rw [length_entL]; exact hj)]; rfl
  | e :: l, i + 1, j, h, hj => by
    rw [qC_cons, List.getElem?_append_right (by rw [length_entL]; omega), length_entL, show (i + 1) * 5 + j - 5 = i * 5 + j by omega, qC_get l i j (by simpa using h) hj]
    rfl
theorem qC_take (l : List E) : ∀ (n : Nat), qC (l.take n) = (qC l).take (n * 5) := by
  induction l with
  | nil => intro n; simp [qC]
  | cons e l ih =>
    intro n
    cases n with
    | zero => simp [qC]
    | succ n =>
      rw [List.take_succ_cons, qC_cons, qC_cons, ih, List.take_append, length_entL, show (n + 1) * 5 - 5 = n * 5 by omega, List.take_of_length_le (i := (n + 1) * 5) (l := entL e) (by rw [length_entL]; omega)]
end Go.Proofs.Ytkagfnocpllcpaa
