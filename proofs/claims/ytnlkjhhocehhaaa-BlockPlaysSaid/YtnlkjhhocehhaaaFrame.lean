/- What the laws' frames need of a slice of bytes that came in. -/
import Derived.Test.YtnlkjhhocehhaaaRows
import Derived.Test.YtnlkjhhocehhaaaMem
import Derived.WalkKit
import Derived.ProofKit
import Derived.OpenShut
import Derived.ShutString
import Derived.ChangeOld
import Derived.Below
namespace Go.Proofs.Ytnlkjhhocehhaaa
set_option linter.unusedVariables false
open Go Go.RowKit Go.Proofs
theorem own : ownKnob Try.prog.godebug = none := by kernel_rfl
theorem laidOut : laidOutB Try.prog = true := by kernel_rfl
/-- A row of numbers that came in (as the skeleton says it). -/
def IsRow (k : IntKind) (w : World) (a : Option Addr) (len cap : Nat) (zs : List Int) : Prop :=
  (a = none ∧ len = 0 ∧ cap = 0 ∧ zs = []) ∨
  ∃ x, a = some x ∧ len ≤ cap ∧ cap ≤ maxLen ∧ zs.length = cap ∧ (∀ i, i < zs.length → w.cell? (x.add i) = some (.int k (zs.getD i 0))) ∧ ∀ n ∈ zs, (Lit.int k n).wf = true
/-- A slice of bytes whose bytes are l. -/
structure Arg (w : World) (A : Option Addr) (n c : Nat) (l : List UInt8) : Prop where
  len : n = l.length
  le : n ≤ c
  cap : c ≤ maxLen
  bytes : Bytes w A l
  nil : A = none → n = 0 ∧ c = 0
  plain : ∀ a, A = some a → a.spot = none ∨ n = 0
theorem Bytes.keep {w w' : World} {A : Option Addr} {l : List UInt8} (h : Bytes w A l) (hb : Below w.heap.size w w') : Bytes w' A l :=
  ⟨h.1, fun hm => by
    obtain ⟨g, o, rfl, hg, hc⟩ := h.2 hm
    exact ⟨g, o, rfl, Nat.lt_of_lt_of_le hg hb.size, fun j u hj => (hb.cell (p := ⟨g, o + j, none⟩) hg).trans (hc j u hj)⟩⟩
theorem Arg.keep {w w' : World} {A : Option Addr} {n c : Nat} {l : List UInt8} (h : Arg w A n c l) (hb : Below w.heap.size w w') : Arg w' A n c l :=
  ⟨h.len, h.le, h.cap, h.bytes.keep hb, h.nil, h.plain⟩
/-- The first m of a slice. -/
theorem Bytes.take {w : World} {A : Option Addr} {l : List UInt8} (h : Bytes w A l) (m : Nat) : Bytes w A (l.take m) := by
  refine ⟨by simp [byteVals], fun hm => ?_⟩
  have hl : 0 < l.length := by rw [List.length_take] at hm; omega
  obtain ⟨g, o, rfl, hg, hc⟩ := h.2 hl
  refine ⟨g, o, rfl, hg, fun j u hj => hc j u ?_⟩
  simp only [byteVals, List.map_take] at hj ⊢
  rw [List.getElem?_take] at hj
  split at hj
  · exact hj
  · cases hj
/-- A slice from k on. -/
theorem Bytes.drop {w : World} {g o k : Nat} {l : List UInt8} (h : Bytes w (some ⟨g, o, none⟩) l) : Bytes w (some ⟨g, o + k, none⟩) (l.drop k) := by
  refine ⟨by simp [byteVals], fun hm => ?_⟩
  have hl : 0 < l.length := by rw [List.length_drop] at hm; omega
  obtain ⟨g', o', e, hg, hc⟩ := h.2 hl
  cases e
  refine ⟨g, o + k, rfl, hg, fun j u hj => ?_⟩
  rw [Nat.add_assoc]
  refine hc (k + j) u ?_
  simpa [byteVals, List.getElem?_drop] using hj
theorem arg_of {w : World} {A : Option Addr} {n c : Nat} {zs : List Int} (h : IsRow .u8 w A n c zs) : ∃ l, Arg w A n c l := by
  rcases h with ⟨rfl, rfl, rfl, rfl⟩ | ⟨x, rfl, hl, hm, hz, hcell, hwz⟩
  · exact ⟨[], rfl, by omega, by unfold maxLen; omega, Bytes.nil _ _, fun _ => ⟨rfl, rfl⟩, fun a h => by cases h⟩
  · have hln : ((zs.take n).map (fun z => UInt8.ofNat z.toNat)).length = n := by simp; omega
    refine ⟨(zs.take n).map (fun z => UInt8.ofNat z.toNat), hln.symm, hl, hm, ⟨by simp [byteVals], fun h0 => ?_⟩, fun h => by simp at h, fun a h => ?_⟩
    · rw [hln] at h0
      obtain ⟨b, off, spot⟩ := x
      have hc0 := hcell 0 (by omega)
      have hspot : spot = none := by simpa [Addr.add] using World.cell?_spot hc0
      subst hspot
      refine ⟨b, off, rfl, ?_, fun j u hj => ?_⟩
      · rcases Nat.lt_or_ge b w.heap.size with h' | h'
        · exact h'
        · simp [World.cell?, Addr.add, Array.getElem?_eq_none h'] at hc0
      · have hjn : j < n := by
          rcases Nat.lt_or_ge j n with h' | h'
          · exact h'
          · rw [List.getElem?_eq_none (by simp [byteVals]; omega)] at hj; cases hj
        have hcj := hcell j (by omega)
        have hw := hwz (zs.getD j 0) (by
          rw [List.getD_eq_getElem?_getD, List.getElem?_eq_getElem (by omega)]; simp)
        have hr : 0 ≤ zs.getD j 0 ∧ zs.getD j 0 < 256 := by
          simp [Lit.wf, IntKind.min, IntKind.max, IntKind.bits, IntKind.signed] at hw
          simp; omega
        rw [show (⟨b, off + j, none⟩ : Addr) = (⟨b, off, none⟩ : Addr).add j from by simp [Addr.add], hcj, ← hj]
        simp only [byteVals, List.getElem?_map, List.getElem?_take, hjn, if_true, List.getElem?_eq_getElem (show j < zs.length by omega), Option.map_some, v8, n8]
        have e : zs.getD j 0 = zs[j]'(by omega) := by simp [show j < zs.length by omega]
        rw [e] at hr ⊢
        congr 2
        rw [UInt8.toNat_ofNat_of_lt' (by show _ < 256; omega)]
        omega
    · cases h
      by_cases h0 : n = 0
      · exact .inr h0
      · have hc0 := hcell 0 (by omega)
        exact .inl (by simpa [Addr.add] using World.cell?_spot hc0)
end Go.Proofs.Ytnlkjhhocehhaaa
