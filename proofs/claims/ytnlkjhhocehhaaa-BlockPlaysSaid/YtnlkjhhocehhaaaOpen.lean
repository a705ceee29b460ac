/- What the block laws' frames need of a row of writes, and of steps, that came in. -/
import Derived.Test.YtnlkjhhocehhaaaFrame
import Derived.Test.YtnlkjhhocehhaaaRowsIn
import Derived.Test.YtnlkjhhocehhaaaFew
import Derived.Lib.SmallJoins
import Derived.Deep.Slices
import Derived.Deep.Fields
import Derived.ChangeSame
namespace Go.Proofs.Ytnlkjhhocehhaaa
set_option linter.unusedVariables false
set_option maxRecDepth 100000
open Go Go.RowKit Go.Proofs Go.Joins Go.ChangeShapes Go.WideShapes Go.Deep
/-- Writes that came in. -/
def WsI (w : World) (A : Option Addr) (m c : Nat) (ls : List Wr) : Prop := WsR w A m c ls ∧ ∀ e ∈ ls, Sl w e.u e.x
/-- A step. -/
structure St where
  kind : Int
  room : Int
  k : Int
  torn : Int
  A : Option Addr
  c : Nat
  ls : List Wr
instance : Inhabited St := ⟨⟨0, 0, 0, 0, none, 0, []⟩⟩
def stC (s : St) : List Value := [.int .i64 s.kind, .int .i64 s.room, .int .i64 s.k, .int .i64 s.torn, .slice s.A s.ls.length s.c]
def StI (w : World) (s : St) : Prop := WsI w s.A s.ls.length s.c s.ls
theorem length_stC (s : St) : (stC s).length = 5 := rfl
/-- Steps that came in. -/
def StsI (w : World) (A : Option Addr) (m c : Nat) (l : List St) : Prop := m = l.length ∧ m ≤ c ∧ c ≤ maxLen ∧ (∀ s ∈ l, StI w s) ∧ (0 < m → ∃ g o, A = some ⟨g, o, none⟩ ∧ g < w.heap.size ∧ ∀ i, i < m → w.rangeAt g (o + i * 5) (stC (l.getD i default)))
theorem Sl.nil (w : World) : Sl w (.slice none 0 0) [] := ⟨none, 0, rfl, Nat.le_refl _, by decide, Bytes.nil _ _, fun _ => rfl⟩
section
variable {H : Type} {enc : TypeId × Value → H} {w : World} {base : Nat} {held : Bool}
theorem wr_cells0 {t : TypeId} {f0 f1 : Field} (hs : Try.prog.underlying t = some (.struct #[f0, f1])) (hone : oneCellFields Try.prog #[f0, f1] = true) (hC : Try.prog.cellsOf t = 2)
    (u0 : Try.prog.underlying f0.type = some (.int .i64)) (u1 : Try.prog.underlying f1.type = some (.slice 5))
    {fuel : Nat} {cs : List Value} {x : DataW H × List MemPlace} (h : DataW.trod enc Try.prog w base (fun _ => true) held fuel t cs = some x) :
    ∃ e : Wr, cs = wrC e ∧ Sl w e.u e.x := by
  obtain ⟨xs, n, _, _, hlen, hl5, hg⟩ := DataW.trod_struct hs h
  obtain ⟨o0, k0⟩ := hone_of hone 0 f0 rfl
  obtain ⟨o1, k1⟩ := hone_of hone 1 f1 rfl
  match cs, hlen.trans hC with
  | [c0, c1], _ =>
    match xs, hl5 with
    | [y0, y1], _ =>
      have h0 := hg 0 f0 rfl
      have h1 := hg 1 f1 rfl
      simp only [o0, o1, k0, k1, List.drop_zero, List.drop_succ_cons, List.take_succ_cons, List.take_zero] at h0 h1
      obtain ⟨k, e0, _, g0⟩ := DataW.trod_int u0 (h0.trans rfl)
      rcases open_ints u1 Try.underlying5 (by kernel_rfl) (h1.trans rfl) with ⟨e1, _⟩ | ⟨a, len, cap, zs, e1, hb, hl, hm, hz, _, hcell, hwf⟩
      · cases e0; cases e1
        exact ⟨⟨k, none, 0, []⟩, rfl, Sl.nil w⟩
      · cases e0; cases e1
        obtain ⟨x, hx⟩ := sl_row (.inr ⟨a, rfl, hl, hm, by simpa using hz, hcell, hwf⟩ : IsRow .u8 w (some a) len cap zs)
        have hlx := hx.sl_eq.1
        subst hlx
        exact ⟨⟨k, some a, cap, x⟩, rfl, hx⟩
theorem cells118 : Try.prog.cellsOf 118 = 2 := by kernel_rfl
theorem cells82 : Try.prog.cellsOf 82 = 5 := by kernel_rfl
theorem wr_cells {fuel : Nat} {cs : List Value} {x : DataW H × List MemPlace} (h : DataW.trod enc Try.prog w base (fun _ => true) held fuel 118 cs = some x) :
    ∃ e : Wr, cs = wrC e ∧ Sl w e.u e.x :=
  wr_cells0 Try.underlying118 (by kernel_rfl) cells118 Try.underlying3 Try.underlying22 h
theorem ws_in {fuel : Nat} {a : Option Addr} {len cap : Nat} {x : DataW H × List MemPlace} (h : DataW.trod enc Try.prog w base (fun _ => true) held fuel 58 [.slice a len cap] = some x) :
    ∃ l, WsI w a len cap l := by
  rcases open_slice Try.underlying58 h with ⟨h0, _⟩ | ⟨y, l, c, m, n, D, Pl, hcs, hb, hl, hm, hmm, hx, hi⟩
  · cases h0
    exact ⟨[], ⟨rfl, Nat.le_refl _, by decide, fun _ => rfl, rfl, fun h => by omega⟩, fun e he => by cases he⟩
  · cases hcs
    have hml : len ≤ m := by rw [hmm]; split <;> omega
    have hall : ∀ i, ∃ e : Wr, i < m → ((∀ j, j < 2 → w.cell? ((y.add (i * 2)).add j) = (wrC e)[j]?) ∧ Sl w e.u e.x) := fun i => by
      by_cases him : i < m
      · obtain ⟨cs', hc, ht'⟩ := hi i him
        rw [cells118] at hc
        obtain ⟨e, he, ho⟩ := wr_cells ht'
        subst he
        exact ⟨e, fun _ => ⟨(World.cells?_some hc).2.2, ho⟩⟩
      · exact ⟨default, fun h => absurd h him⟩
    obtain ⟨f, hf⟩ := Classical.axiomOfChoice hall
    have hgd : ∀ i, i < len → ((List.range len).map f).getD i default = f i := fun i hi => by simp [List.getD_eq_getElem?_getD, hi]
    refine ⟨(List.range len).map f, ⟨by simp, hl, hm, (fun h => by cases h), by simp [length_wsC], fun h0 => ?_⟩, fun e he => ?_⟩
    · obtain ⟨b, off, spot⟩ := y
      have hc0 := (hf 0 (by omega)).1 0 (by omega)
      have hspot : spot = none := by simpa [Addr.add] using World.cell?_spot (hc0.trans (by rfl : (wrC (f 0))[0]? = some (.int .i64 (f 0).room)))
      subst hspot
      refine ⟨b, off, rfl, ?_, fun j u hj => ?_⟩
      · rcases Nat.lt_or_ge b w.heap.size with h' | h'
        · exact h'
        · simp [World.cell?, Addr.add, Array.getElem?_eq_none h', wrC] at hc0
      · have hjl : j < len * 2 := by have := (List.getElem?_eq_some_iff.1 hj).1; rw [length_wsC] at this; simpa using this
        have hj1 : j = (j / 2) * 2 + j % 2 := by omega
        rw [hj1, wsC_get _ _ _ (by simp; omega) (by omega), hgd _ (by omega)] at hj
        have := (hf (j / 2) (by omega)).1 (j % 2) (by omega)
        rw [Addr.add_mid, Addr.add_mid, Nat.add_assoc, ← hj1] at this
        exact this.trans hj
    · obtain ⟨i, hi', rfl⟩ := List.mem_map.1 he
      have := List.mem_range.1 hi'
      exact (hf i (by omega)).2
theorem st_cells0 {t : TypeId} {f0 f1 f2 f3 f4 : Field} (hs : Try.prog.underlying t = some (.struct #[f0, f1, f2, f3, f4])) (hone : oneCellFields Try.prog #[f0, f1, f2, f3, f4] = true) (hC : Try.prog.cellsOf t = 5)
    (u0 : Try.prog.underlying f0.type = some (.int .i64)) (u1 : Try.prog.underlying f1.type = some (.int .i64)) (u2 : Try.prog.underlying f2.type = some (.int .i64)) (u3 : Try.prog.underlying f3.type = some (.int .i64)) (u4 : f4.type = 58)
    {fuel : Nat} {cs : List Value} {x : DataW H × List MemPlace} (h : DataW.trod enc Try.prog w base (fun _ => true) held fuel t cs = some x) :
    ∃ s : St, cs = stC s ∧ StI w s := by
  obtain ⟨xs, n, _, _, hlen, hl5, hg⟩ := DataW.trod_struct hs h
  obtain ⟨o0, k0⟩ := hone_of hone 0 f0 rfl
  obtain ⟨o1, k1⟩ := hone_of hone 1 f1 rfl
  obtain ⟨o2, k2⟩ := hone_of hone 2 f2 rfl
  obtain ⟨o3, k3⟩ := hone_of hone 3 f3 rfl
  obtain ⟨o4, k4⟩ := hone_of hone 4 f4 rfl
  match cs, hlen.trans hC with
  | [c0, c1, c2, c3, c4], _ =>
    match xs, hl5 with
    | [y0, y1, y2, y3, y4], _ =>
      have h0 := hg 0 f0 rfl
      have h1 := hg 1 f1 rfl
      have h2 := hg 2 f2 rfl
      have h3 := hg 3 f3 rfl
      have h4 := hg 4 f4 rfl
      simp only [o0, o1, o2, o3, o4, k0, k1, k2, k3, k4, List.drop_zero, List.drop_succ_cons, List.take_succ_cons, List.take_zero] at h0 h1 h2 h3 h4
      obtain ⟨a0, e0, _, g0⟩ := DataW.trod_int u0 (h0.trans rfl)
      obtain ⟨a1, e1, _, g1⟩ := DataW.trod_int u1 (h1.trans rfl)
      obtain ⟨a2, e2, _, g2⟩ := DataW.trod_int u2 (h2.trans rfl)
      obtain ⟨a3, e3, _, g3⟩ := DataW.trod_int u3 (h3.trans rfl)
      cases e0; cases e1; cases e2; cases e3
      rw [u4] at h4
      obtain ⟨A, len, cap, rfl⟩ : ∃ A len cap, c4 = .slice A len cap := by
        rcases open_slice Try.underlying58 (h4.trans rfl) with ⟨h0, _⟩ | ⟨y, l, c, m, n, D, Pl, hcs, _⟩
        · cases h0; exact ⟨_, _, _, rfl⟩
        · cases hcs; exact ⟨_, _, _, rfl⟩
      obtain ⟨l, hl⟩ := ws_in (h4.trans rfl)
      have hll := hl.1.1
      subst hll
      exact ⟨⟨a0, a1, a2, a3, A, cap, l⟩, rfl, hl⟩
theorem st_cells {fuel : Nat} {cs : List Value} {x : DataW H × List MemPlace} (h : DataW.trod enc Try.prog w base (fun _ => true) held fuel 82 cs = some x) :
    ∃ s : St, cs = stC s ∧ StI w s :=
  st_cells0 Try.underlying82 (by kernel_rfl) cells82 Try.underlying3 Try.underlying3 Try.underlying3 Try.underlying3 rfl h
/-- A step that came by value. -/
theorem st_value {r : Reach} {b0 : Nat} {v : Value} {d : DataW H} {p : List MemPlace} (hv : Value.okWide Try.prog w r b0 82 v) (h : DataW.Trod enc Try.prog w base (fun _ => true) held 82 v d p) :
    ∃ s : St, v = .agg (stC s).toArray ∧ StI w s := by
  obtain ⟨cs, rfl, hsz⟩ := okWide_struct Try.underlying82 hv
  obtain ⟨l⟩ := cs
  obtain ⟨fuel, hf⟩ := h
  obtain ⟨o, e, ho⟩ := st_cells hf
  have e' : l = stC o := by simpa [Value.cells] using e
  exact ⟨o, by rw [e'], ho⟩
theorem sts_in {fuel : Nat} {a : Option Addr} {len cap : Nat} {x : DataW H × List MemPlace} (h : DataW.trod enc Try.prog w base (fun _ => true) held fuel 78 [.slice a len cap] = some x) :
    ∃ l, StsI w a len cap l := by
  rcases open_slice Try.underlying78 h with ⟨h0, _⟩ | ⟨y, l, c, m, n, D, Pl, hcs, hb, hl, hm, hmm, hx, hi⟩
  · cases h0
    exact ⟨[], rfl, Nat.le_refl _, by decide, (fun e he => by cases he), fun h => by omega⟩
  · cases hcs
    have hml : len ≤ m := by rw [hmm]; split <;> omega
    have hall : ∀ i, ∃ e : St, i < m → ((∀ j, j < 5 → w.cell? ((y.add (i * 5)).add j) = (stC e)[j]?) ∧ StI w e) := fun i => by
      by_cases him : i < m
      · obtain ⟨cs', hc, ht'⟩ := hi i him
        rw [cells82] at hc
        obtain ⟨e, he, ho⟩ := st_cells ht'
        subst he
        exact ⟨e, fun _ => ⟨(World.cells?_some hc).2.2, ho⟩⟩
      · exact ⟨default, fun h => absurd h him⟩
    obtain ⟨f, hf⟩ := Classical.axiomOfChoice hall
    have hgd : ∀ i, i < len → ((List.range len).map f).getD i default = f i := fun i hi => by simp [List.getD_eq_getElem?_getD, hi]
    refine ⟨(List.range len).map f, by simp, hl, hm, fun e he => ?_, fun h0 => ?_⟩
    · obtain ⟨i, hi', rfl⟩ := List.mem_map.1 he
      have := List.mem_range.1 hi'
      exact (hf i (by omega)).2
    · obtain ⟨b, off, spot⟩ := y
      have hc0 := (hf 0 (by omega)).1 0 (by omega)
      have hspot : spot = none := by simpa [Addr.add] using World.cell?_spot (hc0.trans (by rfl : (stC (f 0))[0]? = some (.int .i64 (f 0).kind)))
      subst hspot
      refine ⟨b, off, rfl, ?_, fun i hi j u hj => ?_⟩
      · rcases Nat.lt_or_ge b w.heap.size with h' | h'
        · exact h'
        · simp [World.cell?, Addr.add, Array.getElem?_eq_none h', stC] at hc0
      · rw [hgd i hi] at hj
        have hj5 : j < 5 := by have := (List.getElem?_eq_some_iff.1 hj).1; rwa [length_stC] at this
        have := (hf i (by omega)).1 j hj5
        rw [Addr.add_mid, Addr.add_mid] at this
        exact this.trans hj
end
end Go.Proofs.Ytnlkjhhocehhaaa
