/- Rows of writes in memory. Written by wip/mkwsort.py, after OQmem. -/
import Derived.Test.YtnlkjhhocehhaaaHeap
import Derived.Test.YtnlkjhhocehhaaaRecLaw
import Derived.Test.YtnlkjhhocehhaaaPure
namespace Go.Proofs.Ytnlkjhhocehhaaa
set_option linter.unusedVariables false
open Go Go.RowKit Go.Proofs
/-- A write: its room, and the slice of its bytes. -/
structure Wr where
  room : Int
  A : Option Addr
  c : Nat
  x : List UInt8
instance : Inhabited Wr := ⟨⟨0, none, 0, []⟩⟩
def Wr.u (e : Wr) : Value := .slice e.A e.x.length e.c
def wrC (e : Wr) : List Value := [.int .i64 e.room, e.u]
abbrev wrV (e : Wr) : Value := .agg (wrC e).toArray
def wsC (l : List Wr) : List Value := l.flatMap wrC
def ltW (a b : Wr) : Bool := decide (a.room < b.room)
theorem length_wrC (e : Wr) : (wrC e).length = 2 := rfl
theorem length_wsC (l : List Wr) : (wsC l).length = l.length * 2 := by
  induction l with
  | nil => rfl
  | cons e l ih => rw [wsC, List.flatMap_cons, List.length_append, ← wsC, ih, length_wrC, List.length_cons]; omega
theorem wsC_cons (e : Wr) (l : List Wr) : wsC (e :: l) = wrC e ++ wsC l := rfl
theorem wsC_append (a b : List Wr) : wsC (a ++ b) = wsC a ++ wsC b := by simp [wsC]
theorem wsC_get : ∀ (l : List Wr) (i j : Nat), i < l.length → j < 2 → (wsC l)[i * 2 + j]? = (wrC (l.getD i default))[j]?
  | [], _, _, h, _ => by simp at h
  | e :: l, 0, j, _, hj => by
    rw [wsC_cons, Nat.zero_mul, Nat.zero_add, List.getElem?_append_left (by rw [length_wrC]; exact hj)]; rfl
  | e :: l, i + 1, j, h, hj => by
    rw [wsC_cons, List.getElem?_append_right (by rw [length_wrC]; omega), length_wrC, show (i + 1) * 2 + j - 2 = i * 2 + j by omega, wsC_get l i j (by simpa using h) hj]
    rfl
theorem wsC_take (l : List Wr) : ∀ (n : Nat), wsC (l.take n) = (wsC l).take (n * 2) := by
  induction l with
  | nil => intro n; simp [wsC]
  | cons e l ih =>
    intro n
    cases n with
    | zero => simp [wsC]
    | succ n =>
      rw [List.take_succ_cons, wsC_cons, wsC_cons, ih, List.take_append, length_wrC, show (n + 1) * 2 - 2 = n * 2 by omega, List.take_of_length_le (i := (n + 1) * 2) (l := wrC e) (by rw [length_wrC]; omega)]
theorem Blk.setCells' {g : Nat} {t : TypeId} {cs : Array Value} {w : World} (vs : List Value) (o : Nat) (h : Blk w g t cs) (hl : o + vs.length ≤ cs.size) :
    ∃ cs', Blk (w.setCells g o vs) g t cs' ∧ cs'.size = cs.size ∧ ∀ k, cs'[k]? = if o ≤ k ∧ k < o + vs.length then vs[k - o]? else cs[k]? := by
  refine ⟨_, Blk.setCells vs o w cs h hl, by simp; omega, fun k => ?_⟩
  simp only [List.append_assoc, List.getElem?_toArray]
  have htl : (cs.toList.take o).length = o := by simp; omega
  by_cases h1 : k < o
  · rw [if_neg (by omega), List.getElem?_append_left (by omega), List.getElem?_take_of_lt h1]; simp
  · rw [List.getElem?_append_right (by omega), htl]
    by_cases h2 : k < o + vs.length
    · rw [if_pos ⟨by omega, h2⟩, List.getElem?_append_left (by omega)]
    · rw [if_neg (by omega), List.getElem?_append_right (by omega), List.getElem?_drop, show o + vs.length + (k - o - vs.length) = k by omega]; simp
section
variable {S : Nat → Prop} {w w' : World} {v : Value} {n : Nat} {l : List Wr}
/-- A slice of entries. -/
def WsO (w : World) (v : Value) (l : List Wr) : Prop := Own w 73 2 v l.length (wsC l)
theorem WsO.nil (w : World) : WsO w (.slice none 0 0) [] := Own.nil w 73 2
theorem WsO.shape (h : WsO w v l) : ∃ A cap, v = .slice A l.length cap ∧ l.length ≤ cap ∧ cap ≤ maxLen := Own.shape h
theorem WsO.fr (h : WsO w v l) (hf : Fr S w w') (hs : ∀ k, S k → ¬ rowOf v k) : WsO w' v l := Own.fr h hf hs
theorem WsO.keep (h : WsO w v l) (hb : Below w.heap.size w w') : WsO w' v l := Own.fr h (Fr.of_below hb nob) (fun _ h => h.elim)
/-- Where an entry lies. -/
theorem WsO.at_ (h : WsO w v l) (i : Nat) (hi : i < l.length) : ∃ g o cap, v = .slice (some ⟨g, o, none⟩) l.length cap ∧ rowOf v g ∧ g < w.heap.size ∧ w.rangeAt g (o + i * 2) (wrC (l.getD i default)) ∧ w.there g (o + i * 2) 2 := by
  rcases h.2 with ⟨_, h0⟩ | ⟨g, o, cap, cur, rfl, hb, hc, hm, hfit, hx⟩
  · omega
  · have hle : i * 2 + 2 ≤ cap * 2 := by omega
    refine ⟨g, o, cap, rfl, rfl, hb.lt, fun j u hj => ?_, fun j hj => ⟨?_, hb.frozen _⟩⟩
    · have hj2 : j < 2 := by have := (List.getElem?_eq_some_iff.1 hj).1; rw [length_wrC] at this; exact this
      rw [hb.cell, Nat.add_assoc]
      refine hx (i * 2 + j) u ?_
      rw [wsC_get l i j hi hj2]; exact hj
    · rw [hb.cell]; simp; omega
/-- .. for all entries at once. -/
theorem WsO.all (h : WsO w v l) (h0 : 0 < l.length) : ∃ g o cap, v = .slice (some ⟨g, o, none⟩) l.length cap ∧ rowOf v g ∧ g < w.heap.size ∧ l.length ≤ cap ∧ cap ≤ maxLen ∧ ∀ i, i < l.length → w.rangeAt g (o + i * 2) (wrC (l.getD i default)) ∧ w.there g (o + i * 2) 2 := by
  obtain ⟨g, o, cap, hv, hr, hg, _⟩ := h.at_ 0 h0
  obtain ⟨A, cap', hv', hc, hm⟩ := h.shape
  rw [hv] at hv'
  injection hv' with _ _ hcc
  subst hcc
  refine ⟨g, o, cap, hv, hr, hg, hc, hm, fun i hi => ?_⟩
  obtain ⟨g', o', cap', hv'', _, _, h1, h2⟩ := h.at_ i hi
  rw [hv] at hv''
  simp only [Value.slice.injEq, Option.some.injEq, Addr.mk.injEq] at hv''
  obtain ⟨⟨e1, e2, _⟩, _, _⟩ := hv''
  subst e1 e2
  exact ⟨h1, h2⟩
theorem WsO.at' {g o cap : Nat} (h : WsO w (.slice (some ⟨g, o, none⟩) l.length cap) l) (i : Nat) (hi : i < l.length) : w.rangeAt g (o + i * 2) (wrC (l.getD i default)) ∧ w.there g (o + i * 2) 2 ∧ g < w.heap.size := by
  obtain ⟨g', o', cap', hv, _, hg, h1, h2⟩ := h.at_ i hi
  simp only [Value.slice.injEq, Option.some.injEq, Addr.mk.injEq] at hv
  obtain ⟨⟨e1, e2, _⟩, _, _⟩ := hv
  subst e1 e2
  exact ⟨h1, h2, hg⟩
/-- An entry is written. -/
theorem WsO.set_ {g o cap : Nat} (h : WsO w (.slice (some ⟨g, o, none⟩) l.length cap) l) (i : Nat) (hi : i < l.length) (e : Wr) : WsO (w.setCells g (o + i * 2) (wrC e)) (.slice (some ⟨g, o, none⟩) l.length cap) (l.set i e) ∧ Fr (one g) w (w.setCells g (o + i * 2) (wrC e)) := by
  refine ⟨?_, fr_setCells _ _ _⟩
  rcases h.2 with ⟨_, h0⟩ | ⟨g', o', cap', cur, hv, hb, hc, hm, hfit, hx⟩
  · omega
  · simp only [Value.slice.injEq, Option.some.injEq, Addr.mk.injEq] at hv
    obtain ⟨⟨e1, e2, _⟩, _, e3⟩ := hv
    subst e1 e2 e3
    obtain ⟨cs', hb', hs', hg'⟩ := Blk.setCells' (wrC e) (o + i * 2) hb (by rw [length_wrC]; omega)
    refine ⟨by rw [length_wsC], .inr ⟨g, o, cap, cs', by rw [List.length_set], hb', by rw [List.length_set]; exact hc, hm, by rw [hs']; exact hfit, fun j u hj => ?_⟩⟩
    have hjl : j < l.length * 2 := by have := (List.getElem?_eq_some_iff.1 hj).1; rw [length_wsC, List.length_set] at this; exact this
    have hj1 : j = (j / 2) * 2 + j % 2 := by omega
    have hj2 : j / 2 < l.length := by omega
    rw [hj1, wsC_get _ _ _ (by rw [List.length_set]; exact hj2) (by omega)] at hj
    rw [hg', length_wrC]
    by_cases hij : j / 2 = i
    · have hd : (l.set i e).getD (j / 2) default = e := by rw [hij]; simp [hi]
      rw [hd] at hj
      rw [if_pos ⟨by omega, by omega⟩, show o + j - (o + i * 2) = j % 2 by omega]
      exact hj
    · have hd : (l.set i e).getD (j / 2) default = l.getD (j / 2) default := by simp only [List.getD_eq_getElem?_getD]; rw [List.getElem?_set_ne (by omega)]
      rw [hd] at hj
      rw [if_neg (by omega)]
      refine hx j u ?_
      rw [hj1, wsC_get l (j / 2) (j % 2) hj2 (by omega)]
      exact hj
/-- Fewer of them. -/
theorem WsO.take {g o cap m : Nat} (h : WsO w (.slice (some ⟨g, o, none⟩) l.length cap) l) (hm : m ≤ l.length) : WsO w (.slice (some ⟨g, o, none⟩) m cap) (l.take m) := by
  have hl : (l.take m).length = m := by simp; omega
  rcases h.2 with ⟨h0, _⟩ | ⟨g', o', cap', cur, hv, hb, hc, hmx, hfit, hx⟩
  · cases h0
  · simp only [Value.slice.injEq, Option.some.injEq, Addr.mk.injEq] at hv
    obtain ⟨⟨e1, e2, _⟩, _, e3⟩ := hv
    subst e1 e2 e3
    refine ⟨by rw [length_wsC], .inr ⟨g, o, cap, cur, by rw [hl], hb, by omega, hmx, hfit, fun j u hj => ?_⟩⟩
    rw [wsC_take, List.getElem?_take] at hj
    split at hj
    · exact hx j u hj
    · cases hj
end
section
variable {P : Program}
/-- A whole entry is read. -/
theorem quiet_load_mid {C : World → Prop} {K : Act → Prop} {a : Act} {o : Oper} (ty : TypeId) (x : Operand) (ho : o.op = .load ty x)
    (g off : Nat) (cs : List Value) (d : TypeDesc) (hx : a.eval x = .pointer (some ⟨g, off, none⟩)) (hb : ∀ W, C W → W.rangeAt g off cs)
    (hu : P.underlying ty = some d) (hd : d.isRow = true) (hi : (P.info? ty).map (·.size) = some cs.length)
    (hk : K (a.put o.dst (.agg cs.toArray))) : o.quiet P a C K := by
  refine ⟨.agg cs.toArray, fun w hw => ?_, hk⟩
  unfold Oper.quietAt execOp
  simp only [ho, hx, run_loadAt_mid w g off ty cs d (hb w hw) hu hd hi, Sem.run_bind, Sem.run_pure, Result.andThen_ok]
  exact ⟨rfl, rfl⟩
theorem rangeAt_below {w w' : World} {g o : Nat} {cs : List Value} (h : w.rangeAt g o cs) (hb : Below w.heap.size w w') (hg : g < w.heap.size) : w'.rangeAt g o cs := fun j u hj => (hb.cell (p := ⟨g, o + j, none⟩) hg).trans (h j u hj)
theorem Regrown.range {w : World} {g o : Nat} {cs : List Value} (h : w.rangeAt g o cs) (hg : g < w.heap.size) : ∀ W, (∃ p : Regrown, W = Sort.grow (redrawn w p.d) p.os) → W.rangeAt g o cs := fun W ⟨p, hp⟩ => by
  rw [hp]; exact rangeAt_below h (below_regrown w p.d p.os) hg
theorem Kept.range {S : Nat → Prop} {w : World} {g o : Nat} {cs : List Value} (h : w.rangeAt g o cs) (hg : g < w.heap.size) (hs : ¬ S g) : ∀ W, (∃ q : Kept S w, W = q.x) → W.rangeAt g o cs := fun W ⟨q, hq⟩ => by
  rw [hq]; exact fun j u hj => (q.fr.cell hg hs).trans (h j u hj)
end
theorem info73 (e : Wr) : (Try.prog.info? 73).map (·.size) = some (wrC e).length := by rw [length_wrC]; kernel_rfl
theorem one_wr (e : Wr) : (wrC e).toArray.all (·.oneCell') = true := by simp [wrC, Wr.u, Value.oneCell']
end Go.Proofs.Ytnlkjhhocehhaaa
