/- A row of byte slices, opened. -/
import Derived.Test.YtnlkjhhocehhaaaFrame
import Derived.Test.YtnlkjhhocehhaaaBlockScans
import Derived.Deep.Matrix
namespace Go.Proofs.Ytnlkjhhocehhaaa
open Go Go.Proofs Go.RowKit
open Go.ChangeShapes Go.WideShapes Go.ChangeAt
set_option linter.unusedVariables false
theorem sl_row {W : World} {a : Option Addr} {l c : Nat} {zs : List Int} (h : IsRow .u8 W a l c zs) : ∃ x, Sl W (.slice a l c) x := by
  obtain ⟨x, hA⟩ := arg_of h
  refine ⟨x, a, c, by rw [hA.len], by have := hA.len; have := hA.le; omega, hA.cap, hA.bytes, fun e => ?_⟩
  rcases h with ⟨_, _, hc, _⟩ | ⟨a', e', _⟩
  · exact hc
  · rw [e] at e'; cases e'
theorem rows_of {H : Type} {enc : TypeId × Value → H} {W : World} {base n : Nat} {held : Bool} {A : Option Addr} {len cap : Nat} {y : DataW H × List MemPlace}
    (hf : DataW.trod enc Try.prog W base (fun _ => true) held n 48 [.slice A len cap] = some y) : ∃ ls : List (List UInt8), len = ls.length ∧ len ≤ cap ∧ cap ≤ maxLen ∧ RowsIn W A ls := by
  rcases Go.Deep.open_int_rows Try.underlying48 Try.underlying22 Try.underlying5 (by kernel_rfl) (by kernel_rfl) hf with ⟨hcs, _⟩ | ⟨a, l, c, R, L, C, Z, hcs, _, hl, hm, _, hr⟩
  · simp at hcs
    obtain ⟨rfl, rfl, rfl⟩ := hcs
    exact ⟨[], rfl, Nat.le_refl _, by simp [maxLen], fun h => absurd h (by simp)⟩
  · simp at hcs
    obtain ⟨rfl, rfl, rfl⟩ := hcs
    have each : ∀ r, r < len → ∃ l : List UInt8, Sl W (.slice (R r) (L r) (C r)) l := fun r hr0 => by
      obtain ⟨h1, h2, h3, h4, h5, h6, h7⟩ := hr r (by omega)
      have hrow : IsRow .u8 W (R r) (L r) (C r) (Z r) := by
        cases hR : R r with
        | none =>
          have hC := h6 hR
          exact .inl ⟨rfl, by omega, hC, List.eq_nil_of_length_eq_zero (by omega)⟩
        | some a' => exact .inr ⟨a', rfl, h2, h3, h4, fun i hi => (h7 a' hR).2 i (by omega), h5⟩
      exact sl_row hrow
    have hex : ∃ f : Nat → List UInt8, ∀ r, r < len → Sl W (.slice (R r) (L r) (C r)) (f r) := by
      refine ⟨fun r => if h : r < len then Classical.choose (each r h) else [], fun r h => ?_⟩
      simp only [dif_pos h]
      exact Classical.choose_spec (each r h)
    obtain ⟨f, hfr⟩ := hex
    refine ⟨(List.range len).map f, by simp, hl, hm, fun h0 => ?_⟩
    have hlen : 0 < len := by simpa using h0
    obtain ⟨b, off, spot⟩ := a
    have hspot : spot = none := by
      have := (hr 0 (by omega)).1
      simpa [Addr.add] using World.cell?_spot this
    subst hspot
    refine ⟨b, off, rfl, ?_, fun i hi => ?_⟩
    · have hc0 := (hr 0 (by omega)).1
      rcases Nat.lt_or_ge b W.heap.size with h' | h'
      · exact h'
      · simp [World.cell?, Addr.add, Array.getElem?_eq_none h'] at hc0
    · have hil : i < len := by simpa using hi
      have hci := (hr i (by omega)).1
      rw [Addr.add_mid] at hci
      refine ⟨_, hci, ?_⟩
      have := hfr i hil
      simpa [List.getD_eq_getElem?_getD, hil] using this
end Go.Proofs.Ytnlkjhhocehhaaa
