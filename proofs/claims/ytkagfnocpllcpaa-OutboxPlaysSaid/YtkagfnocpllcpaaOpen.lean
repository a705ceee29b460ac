/- What the laws' frames need of an operation that came in, and of a row of operations. -/
import Derived.Test.YtkagfnocpllcpaaFrame
import Derived.Lib.SmallJoins
import Derived.Deep.Slices
import Derived.Deep.Fields
import Derived.ChangeSame
namespace Go.Proofs.Ytkagfnocpllcpaa
set_option linter.unusedVariables false
set_option maxRecDepth 100000
open Go Go.RowKit Go.Proofs Go.Joins Go.ChangeShapes Go.WideShapes Go.Deep
/-- An operation of the outbox's laws. -/
structure Op where
  kind : Int
  by_ : Int
  odd : Int
  id : ByteArray
  body : ByteArray
def Op.fits (o : Op) : Prop := (Lit.int .i64 o.kind).wf = true ∧ (Lit.int .i64 o.by_).wf = true ∧ (Lit.int .i64 o.odd).wf = true ∧ o.id.size ≤ maxLen ∧ o.body.size ≤ maxLen
/-- Its five cells. -/
abbrev opCells (o : Op) : List Value := [.int .i64 o.kind, .int .i64 o.by_, .int .i64 o.odd, .string o.id, .string o.body]
abbrev opV (o : Op) : Value := .agg #[.int .i64 o.kind, .int .i64 o.by_, .int .i64 o.odd, .string o.id, .string o.body]
theorem op_cells0 {H : Type} {enc : TypeId × Value → H} {P : Program} {w : World} {base : Nat} {spare : Nat → Bool} {held : Bool} {t : TypeId} {f0 f1 f2 f3 f4 : Field} (hs : P.underlying t = some (.struct #[f0, f1, f2, f3, f4])) (hone : oneCellFields P #[f0, f1, f2, f3, f4] = true) (hC : P.cellsOf t = 5)
    (u0 : P.underlying f0.type = some (.int .i64)) (u1 : P.underlying f1.type = some (.int .i64)) (u2 : P.underlying f2.type = some (.int .i64)) (u3 : P.underlying f3.type = some .string) (u4 : P.underlying f4.type = some .string)
    {fuel : Nat} {cs : List Value} {x : DataW H × List MemPlace} (h : DataW.trod enc P w base spare held fuel t cs = some x) :
    ∃ o : Op, cs = opCells o ∧ o.fits := by
  obtain ⟨xs, n, _, _, hlen, hl5, hg⟩ := DataW.trod_struct hs h
  obtain ⟨o0, k0⟩ := hone_of hone 0 f0 rfl
  obtain ⟨o1, k1⟩ := hone_of hone 1 f1 rfl
  obtain ⟨o2, k2⟩ := hone_of hone 2 f2 rfl
  obtain ⟨o3, k3⟩ := hone_of hone 3 f3 rfl
  obtain ⟨o4, k4⟩ := hone_of hone 4 f4 rfl
  match cs, hlen.trans hC with
  | [c0, c1, c2, c3, c4], _ =>
    match xs, hl5 with
    | [y0, y1, y2, y3, y4], _ =>
      have h0 := hg 0 f0 rfl
      have h1 := hg 1 f1 rfl
      have h2 := hg 2 f2 rfl
      have h3 := hg 3 f3 rfl
      have h4 := hg 4 f4 rfl
      simp only [o0, o1, o2, o3, o4, k0, k1, k2, k3, k4, List.drop_zero, List.drop_succ_cons, List.take_succ_cons, List.take_zero] at h0 h1 h2 h3 h4
      obtain ⟨k, e0, _, g0⟩ := DataW.trod_int u0 (h0.trans rfl)
      obtain ⟨b, e1, _, g1⟩ := DataW.trod_int u1 (h1.trans rfl)
      obtain ⟨o, e2, _, g2⟩ := DataW.trod_int u2 (h2.trans rfl)
      obtain ⟨s, e3, _, g3⟩ := DataW.trod_string u3 (h3.trans rfl)
      obtain ⟨q, e4, _, g4⟩ := DataW.trod_string u4 (h4.trans rfl)
      cases e0; cases e1; cases e2; cases e3; cases e4
      exact ⟨⟨k, b, o, s, q⟩, rfl, g0, g1, g2, g3, g4⟩
theorem op_value0 {H : Type} {enc : TypeId × Value → H} {P : Program} {w : World} {base : Nat} {spare : Nat → Bool} {held : Bool} {t : TypeId} {fs : Array Field} (hs : P.underlying t = some (.struct fs))
    (hop : ∀ {fuel : Nat} {cs : List Value} {x : DataW H × List MemPlace}, DataW.trod enc P w base spare held fuel t cs = some x → ∃ o : Op, cs = opCells o ∧ o.fits)
    {r : Reach} {b0 : Nat} {v : Value} {d : DataW H} {p : List MemPlace} (hv : Value.okWide P w r b0 t v) (h : DataW.Trod enc P w base spare held t v d p) :
    ∃ o : Op, v = opV o ∧ o.fits := by
  obtain ⟨cs, rfl, hsz⟩ := okWide_struct hs hv
  obtain ⟨l⟩ := cs
  obtain ⟨fuel, hf⟩ := h
  obtain ⟨o, e, ho⟩ := hop hf
  have e' : l = opCells o := by simpa [Value.cells] using e
  exact ⟨o, by rw [e'], ho⟩
section
variable {H : Type} {enc : TypeId × Value → H} {w : World} {base : Nat} {spare : Nat → Bool} {held : Bool}
theorem cells23 : Try.prog.cellsOf 23 = 5 := by kernel_rfl
/-- Five cells that are read as an operation are one. -/
theorem op_cells {fuel : Nat} {cs : List Value} {x : DataW H × List MemPlace} (h : DataW.trod enc Try.prog w base spare held fuel 23 cs = some x) :
    ∃ o : Op, cs = opCells o ∧ o.fits :=
  op_cells0 Try.underlying23 (by kernel_rfl) cells23 Try.underlying3 Try.underlying3 Try.underlying3 Try.underlying9 Try.underlying9 h
/-- One that came by value. -/
theorem op_value {r : Reach} {b0 : Nat} {v : Value} {d : DataW H} {p : List MemPlace} (hv : Value.okWide Try.prog w r b0 23 v) (h : DataW.Trod enc Try.prog w base spare held 23 v d p) :
    ∃ o : Op, v = opV o ∧ o.fits := op_value0 Try.underlying23 op_cells hv h
/-- A row of operations that came in. -/
def IsOps (w : World) (a : Option Addr) (len cap : Nat) (l : List Op) : Prop :=
  (a = none ∧ len = 0 ∧ cap = 0 ∧ l = []) ∨
  ∃ x, a = some x ∧ len ≤ cap ∧ cap ≤ maxLen ∧ l.length = len ∧ (∀ o ∈ l, o.fits) ∧ ∀ (i : Nat) (o : Op), l[i]? = some o → ∀ j, j < 5 → w.cell? ((x.add (i * 5)).add j) = (opCells o)[j]?
theorem ops_in0 {P : Program} {t e : TypeId} (ht : P.underlying t = some (.slice e)) (hC : P.cellsOf e = 5)
    (hop : ∀ {fuel : Nat} {cs : List Value} {x : DataW H × List MemPlace}, DataW.trod enc P w base spare held fuel e cs = some x → ∃ o : Op, cs = opCells o ∧ o.fits)
    {fuel : Nat} {a : Option Addr} {len cap : Nat} {x : DataW H × List MemPlace} (h : DataW.trod enc P w base spare held fuel t [.slice a len cap] = some x) :
    ∃ l, IsOps w a len cap l := by
  rcases open_slice ht h with ⟨h0, _⟩ | ⟨y, l, c, m, n, D, Pl, hcs, hb, hl, hm, hmm, hx, hi⟩
  · cases h0
    exact ⟨[], .inl ⟨rfl, rfl, rfl, rfl⟩⟩
  · cases hcs
    have hml : len ≤ m := by rw [hmm]; split <;> omega
    have hall : ∀ i, ∃ o : Op, i < m → ((∀ j, j < 5 → w.cell? ((y.add (i * 5)).add j) = (opCells o)[j]?) ∧ o.fits) := fun i => by
      by_cases him : i < m
      · obtain ⟨cs', hc, ht'⟩ := hi i him
        rw [hC] at hc
        obtain ⟨o, e, ho⟩ := hop ht'
        subst e
        exact ⟨o, fun _ => ⟨(World.cells?_some hc).2.2, ho⟩⟩
      · exact ⟨⟨0, 0, 0, ⟨#[]⟩, ⟨#[]⟩⟩, fun h => absurd h him⟩
    obtain ⟨f, hf⟩ := Classical.axiomOfChoice hall
    refine ⟨(List.range len).map f, .inr ⟨y, rfl, hl, hm, by simp, fun o ho => ?_, fun i o hio => ?_⟩⟩
    · obtain ⟨i, hi', rfl⟩ := List.mem_map.1 ho
      have := List.mem_range.1 hi'
      exact (hf i (by omega)).2
    · rw [List.getElem?_map] at hio
      rcases Nat.lt_or_ge i len with h' | h'
      · rw [List.getElem?_range h'] at hio
        cases hio
        exact (hf i (by omega)).1
      · rw [List.getElem?_eq_none (by simpa using h')] at hio
        cases hio
theorem ops_in {fuel : Nat} {a : Option Addr} {len cap : Nat} {x : DataW H × List MemPlace} (h : DataW.trod enc Try.prog w base spare held fuel 37 [.slice a len cap] = some x) :
    ∃ l, IsOps w a len cap l := ops_in0 Try.underlying37 cells23 op_cells h
end
end Go.Proofs.Ytkagfnocpllcpaa
