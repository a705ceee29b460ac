/- The law BlockScans of the given program is proved: whatever the input, it answers true and leaves the input as it was. No condition. -/
import Derived.Test.YtnlkjhhocehhaaaFrame
import Derived.Test.YtnlkjhhocehhaaaBlockScans
import Derived.Deep.Matrix
namespace Go.Proofs.Ytnlkjhhocehhaaa.blockScans
open Go Go.Proofs Go.Proofs.Ytnlkjhhocehhaaa
open Go.ChangeShapes Go.WideShapes Go.ChangeAt Go.RowKit
open Go.ChangeMaps (open_string shut_string)
set_option linter.unusedVariables false
theorem sl_row {W : World} {a : Option Addr} {l c : Nat} {zs : List Int} (h : IsRow .u8 W a l c zs) : ∃ x, Sl W (.slice a l c) x := by
  obtain ⟨x, hA⟩ := arg_of h
  refine ⟨x, a, c, by rw [hA.len], by have := hA.len; have := hA.le; omega, hA.cap, hA.bytes, fun e => ?_⟩
  rcases h with ⟨_, _, hc, _⟩ | ⟨a', e', _⟩
  · exact hc
  · rw [e] at e'; cases e'
theorem rows_of {H : Type} {enc : TypeId × Value → H} {W : World} {base n : Nat} {held : Bool} {A : Option Addr} {len cap : Nat} {y : DataW H × List MemPlace}
    (hf : DataW.trod enc Try.prog W base (fun _ => true) held n 48 [.slice A len cap] = some y) : ∃ ls : List (List UInt8), len = ls.length ∧ len ≤ cap ∧ cap ≤ maxLen ∧ RowsIn W A ls := by
  rcases Go.Deep.open_int_rows Try.underlying48 Try.underlying22 Try.underlying5 (by kernel_rfl) (by kernel_rfl) hf with ⟨hcs, _⟩ | ⟨a, l, c, R, L, C, Z, hcs, _, hl, hm, _, hr⟩
  · simp at hcs
    obtain ⟨rfl, rfl, rfl⟩ := hcs
    exact ⟨[], rfl, Nat.le_refl _, by simp [maxLen], fun h => absurd h (by simp)⟩
  · simp at hcs
    obtain ⟨rfl, rfl, rfl⟩ := hcs
    have each : ∀ r, r < len → ∃ l : List UInt8, Sl W (.slice (R r) (L r) (C r)) l := fun r hr0 => by
      obtain ⟨h1, h2, h3, h4, h5, h6, h7⟩ := hr r (by omega)
      have hrow : IsRow .u8 W (R r) (L r) (C r) (Z r) := by
        cases hR : R r with
        | none =>
          have hC := h6 hR
          exact .inl ⟨rfl, by omega, hC, List.eq_nil_of_length_eq_zero (by omega)⟩
        | some a' => exact .inr ⟨a', rfl, h2, h3, h4, fun i hi => (h7 a' hR).2 i (by omega), h5⟩
      exact sl_row hrow
    have hex : ∃ f : Nat → List UInt8, ∀ r, r < len → Sl W (.slice (R r) (L r) (C r)) (f r) := by
      refine ⟨fun r => if h : r < len then Classical.choose (each r h) else [], fun r h => ?_⟩
      simp only [dif_pos h]
      exact Classical.choose_spec (each r h)
    obtain ⟨f, hfr⟩ := hex
    refine ⟨(List.range len).map f, by simp, hl, hm, fun h0 => ?_⟩
    have hlen : 0 < len := by simpa using h0
    obtain ⟨b, off, spot⟩ := a
    have hspot : spot = none := by
      have := (hr 0 (by omega)).1
      simpa [Addr.add] using World.cell?_spot this
    subst hspot
    refine ⟨b, off, rfl, ?_, fun i hi => ?_⟩
    · have hc0 := (hr 0 (by omega)).1
      rcases Nat.lt_or_ge b W.heap.size with h' | h'
      · exact h'
      · simp [World.cell?, Addr.add, Array.getElem?_eq_none h'] at hc0
    · have hil : i < len := by simpa using hi
      have hci := (hr i (by omega)).1
      rw [Addr.add_mid] at hci
      refine ⟨_, hci, ?_⟩
      have := hfr i hil
      simpa [List.getD_eq_getElem?_getD, hil] using this
set_option maxRecDepth 100000 in
theorem lifted (os : Os) (started : os.Started) (H : Type) (enc : TypeId × Value → H) :
    ReturnsInHanded {} Try.checked os 14 .any (Rows.blockScansSpec.pre6 enc Try.prog Try.f14 Rows.blockScansRow.domain false) (Rows.blockScansSpec.post enc Try.prog Try.f14 false true false false) := by
  refine returnsInHanded_of_change (C := Try.checked) own started (by kernel_rfl) Try.func14
    (ChangeSpec.witness6 (enc := enc) (C := Try.checked) false ⟨#[], #[.slice none 0 0, .slice none 0 0], []⟩ 8 (by kernel_rfl) (by kernel_rfl) (by kernel_rfl) (by kernel_rfl)) ?_
  intro W base args ds gs before hval0 hW hcnd _
  have hval : ∀ (j : Nat) t v, Try.f14.params[j]? = some t → args[j]? = some v → Value.okWide Try.prog W .any base t v := hval0
  have hW' := hW
  obtain ⟨p, q, hA0, hV, rfl, hfz, hnd⟩ := hW
  have hA : DataW.TrodAll enc Try.prog W 0 (fun _ => true) true Try.f14.params.toList args.toList ds p := hA0
  rw [Try.params14] at hA hval
  obtain ⟨v0, vs0, d0, ds0, p0, q0, hargs, rfl, rfl, h0, r0⟩ := trodAll_cons hA
  obtain ⟨v1, vs1, d1, ds1, p1, q1, rfl, rfl, rfl, h1, r1⟩ := trodAll_cons r0
  obtain ⟨rfl, rfl, rfl⟩ := trodAll_nil r1
  obtain rfl : args = #[v0, v1] := by cases args; simp_all
  obtain ⟨rfl, rfl⟩ := trodVars_none hV
  obtain ⟨a0, len0, cap0, rfl⟩ := okWide_slice Try.underlying22 (hval 0 22 v0 rfl rfl)
  obtain ⟨a1, len1, cap1, rfl⟩ := okWide_slice Try.underlying48 (hval 1 48 v1 rfl rfl)
  have k0 := h0
  have lt0 : ∀ x ∈ p0, x.block < W.heap.size := by obtain ⟨m, hm⟩ := k0; exact DataW.trod_lt m _ _ _ hm
  have k1 := h1
  have lt1 : ∀ x ∈ p1, x.block < W.heap.size := by obtain ⟨m, hm⟩ := k1; exact DataW.trod_lt m _ _ _ hm
  obtain ⟨z0, w0⟩ : ∃ zs, IsRow .u8 W a0 len0 cap0 zs := by
    obtain ⟨fuel, hf⟩ := h0
    rcases open_ints Try.underlying22 Try.underlying5 (by kernel_rfl) hf with ⟨hcs, _⟩ | ⟨x, l, c, zs, hcs, _, hl, hm, hz, _, hcell, hwz⟩
    · simp [Value.cells] at hcs
      obtain ⟨rfl, rfl, rfl⟩ := hcs
      exact ⟨[], .inl ⟨rfl, rfl, rfl, rfl⟩⟩
    · simp [Value.cells] at hcs
      obtain ⟨rfl, rfl, rfl⟩ := hcs
      exact ⟨zs, .inr ⟨_, rfl, hl, hm, by simpa using hz, hcell, hwz⟩⟩
  obtain ⟨fuel1, hf1⟩ := h1
  obtain ⟨ls, l1, l2, l3, l4⟩ := rows_of hf1
  obtain ⟨b, hbs⟩ := sl_row w0
  clear hA0 hval0
  refine (walk a0 len0 cap0 b a1 len1 cap1 ls W hbs l1 l2 l3 l4).mono fun e W' ⟨he, bel⟩ => ?_
  subst he
  exact ⟨_, rfl, _, _, _, [], _, [], hW', trodAll_mk1 (shut_bool Try.underlying4 _), (trodAll_cons_mk (Below.trod laidOut (by kernel_rfl) (of_decide_eq_true (by kernel_rfl)) k0 bel lt0) (trodAll_cons_mk (Below.trod laidOut (by kernel_rfl) (of_decide_eq_true (by kernel_rfl)) k1 bel lt1) trodAll_mk0)), rfl, bel.frame _, fun h => by cases h⟩

theorem over : Rows.blockScansRow.holds Try.pinned (OpenSpec.ofChange Rows.blockScansSpec) :=
  OpenClaim.holds_of_wide 14 Try.f14 rfl rfl rfl rfl rfl rfl rfl ⟨rfl, rfl, rfl, rfl, rfl⟩ rfl rfl rfl rfl rfl (by kernel_rfl) Try.func14 (by kernel_rfl)
    (of_decide_eq_true (by kernel_rfl)) (by unfold Func.isWrapper; first | (rw [if_pos (by decide +kernel)]; kernel_rfl) | (rw [if_neg (by decide +kernel)]; exact ⟨rfl, rfl⟩))
    (fun os started H enc _ => lifted os started H enc)

theorem proved : Rows.BlockScansSaid := over
end Go.Proofs.Ytnlkjhhocehhaaa.blockScans
