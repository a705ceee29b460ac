/- The library's iterator over a row of entries (Values), its collecting (AppendSeq, Collect). -/
import Derived.Test.YtkagfnocpllcpaaSort
import Derived.Test.YtkagfnocpllcpaaMeth
import Derived.Test.YtkagfnocpllcpaaPush
import Derived.RangeFuncNested
import Derived.RangeFuncLeaves
import Derived.Shelf.Abstract
import Derived.OwnWalkIn
import Derived.TacticsInMore
import Derived.LoopNIn
import Derived.LoopIn
import Derived.Maps.AppendAt
import Derived.Deep.MidRow
namespace Go.Proofs.Ytkagfnocpllcpaa
set_option linter.unusedVariables false
open Go Go.RowKit Go.Proofs Go.Shelf
attribute [local go_sem] Oper.semAt_some
section
variable {F : Fence} {n : Nat} {P : Program} {ops : Array Oper} {rest : List Oper} {o : Oper} {a : Act} {w : World} {Q : Exit → Act → World → Prop}
/-- An operation whose run is known, within a fence. -/
theorem wpListIn_run (v : Value) (w' : World) (hg : o.guard = none) (ha : o.about P w a.eval = none) (hd : ∀ c, o.op ≠ .defer c)
    (h : (execOp a.eval o).run P w = .ok (.value v) w') (hk : wpListIn F n P ops Q rest (a.put o.dst v) w') : wpListIn F n P ops Q (o :: rest) a w := by
  refine wpListIn_plain hg fun K hK => ?_
  unfold Oper.wpIn
  refine ⟨fun f hf => (by rw [ha] at hf; cases hf), ?_⟩
  rw [Oper.semAt_plain F _ _ hd, h]
  exact hK _ _ hk
theorem wpListIn_load_mid (hg : o.guard = none) (ty : TypeId) (x : Operand) (ho : o.op = .load ty x)
    (b off : Nat) (hx : a.eval x = .pointer (some ⟨b, off, none⟩)) (cs : List Value) (d : TypeDesc) (hc : w.rangeAt b off cs)
    (hu : P.underlying ty = some d) (hd : d.isRow = true) (hi : (P.info? ty).map (·.size) = some cs.length)
    (h : wpListIn F n P ops Q rest (a.put o.dst (.agg cs.toArray)) w) : wpListIn F n P ops Q (o :: rest) a w := by
  refine wpListIn_run _ w hg ?_ (fun c => by rw [ho]; simp) ?_ h
  · unfold Oper.about; rw [ho]
  · unfold execOp
    simp only [ho, hx, Instr.loadAt, Instr.sureAddr, Sem.run_bind, Sem.run_pure, Result.andThen_ok, run_loadVar_mid w b off ty cs d hc hu hd hi]
theorem wpListIn_store_mid (hg : o.guard = none) (ty : TypeId) (x y : Operand) (ho : o.op = .store ty x y)
    (b off : Nat) (cells : Array Value) (hx : a.eval x = .pointer (some ⟨b, off, none⟩)) (hy : a.eval y = .agg cells)
    (ht : w.there b off cells.size) (hi : (P.info? ty).map (·.size) = some cells.size) (h1 : cells.all (·.oneCell') = true)
    (h : wpListIn F n P ops Q rest (a.put o.dst undef) (w.setCells b off cells.toList)) : wpListIn F n P ops Q (o :: rest) a w := by
  refine wpListIn_plain hg fun K hK => ?_
  unfold Oper.wpIn
  refine ⟨fun f hf => (by unfold Oper.about at hf; rw [ho] at hf; cases hf), ?_⟩
  rw [Oper.semAt_plain F _ _ (fun c => by rw [ho]; simp)]
  unfold execOp
  simp only [ho, hx, hy, Instr.storeAt, Instr.sureAddr, Sem.run_bind, Sem.run_pure, Result.andThen_ok, run_storeVar_mid w b off ty cells ht hi h1]
  exact hK _ _ h
theorem wpListIn_alloc_run (hg : o.guard = none) (ty : TypeId) (ho : o.op = .alloc ty) (cs : Array Value)
    (h : ∀ W : World, (Instr.alloc ty true (.tuple #[])).run P W = .ok (.pointer (some ⟨W.heap.size, 0, none⟩)) (W.alloc (.cells cs ty)))
    (hk : wpListIn F n P ops Q rest (a.put o.dst (.pointer (some ⟨w.heap.size, 0, none⟩))) (w.alloc (.cells cs ty))) : wpListIn F n P ops Q (o :: rest) a w := by
  refine wpListIn_run _ _ hg ?_ (fun c => by rw [ho]; simp) ?_ hk
  · unfold Oper.about; rw [ho]
  · unfold execOp; rw [ho]; simp only [Sem.run_bind, h, Result.andThen_ok, Sem.run_pure]
end
theorem alloc_setCells (w0 : World) (t : TypeId) (cur cells : Array Value) (hs : cells.size = cur.size) : (w0.alloc (.cells cur t)).setCells w0.heap.size 0 cells.toList = w0.alloc (.cells cells t) := by
  have hf := fr_setCells (g := w0.heap.size) cells.toList 0 (w0.alloc (.cells cur t))
  have hb : Blk ((w0.alloc (.cells cur t)).setCells w0.heap.size 0 cells.toList) w0.heap.size t cells := by
    have := Blk.setCells (t := t) cells.toList 0 _ cur (Blk.new w0 t cur) (by simp; omega)
    have e : (cur.toList.take 0 ++ cells.toList ++ cur.toList.drop (0 + cells.toList.length)) = cells.toList := by simp [hs]
    rw [e] at this
    simpa using this
  have hd : ((w0.alloc (.cells cur t)).setCells w0.heap.size 0 cells.toList).drawn = w0.drawn := by
    have : ∀ (vs : List Value) (o : Nat) (w : World), (w.setCells w0.heap.size o vs).drawn = w.drawn := by
      intro vs
      induction vs with
      | nil => intro o w; rfl
      | cons v r ih => intro o w; exact ih (o + 1) _
    exact this _ _ _
  have hh : ((w0.alloc (.cells cur t)).setCells w0.heap.size 0 cells.toList).heap = (w0.alloc (.cells cells t)).heap := by
    apply Array.ext_getElem?
    intro k
    by_cases hk : k = w0.heap.size
    · subst hk
      exact hb.trans (Blk.new w0 t cells).symm
    · by_cases hlt : k < w0.heap.size
      · exact (heap_setCells _ 0 _ k hk).trans ((Below.heap_alloc _ _ k hlt).trans (Below.heap_alloc w0 _ k hlt).symm)
      · rw [Array.getElem?_eq_none (by rw [size_setCells]; simp; omega), Array.getElem?_eq_none (by simp; omega)]
  have e : ∀ A B : World, A.heap = B.heap → A.tape = B.tape → A.drawn = B.drawn → A.os = B.os → A.output = B.output → A = B := by
    rintro ⟨⟩ ⟨⟩ rfl rfl rfl rfl rfl
    rfl
  exact e _ _ hh hf.tape hd hf.os hf.output
section
variable {F : Fence} {n : Nat} {P : Program} {ops : Array Oper} {rest : List Oper} {o : Oper} {a : Act} {w0 : World} {Q : Exit → Act → World → Prop}
/-- A whole value into the variable that was made last. -/
theorem wpListIn_store_new {cur : Array Value} {t : TypeId} (hg : o.guard = none) (ty : TypeId) (x y : Operand) (ho : o.op = .store ty x y)
    (cells : Array Value) (hx : a.eval x = .pointer (some ⟨w0.heap.size, 0, none⟩)) (hy : a.eval y = .agg cells) (hs : cells.size = cur.size)
    (hi : (P.info? ty).map (·.size) = some cells.size) (h1 : cells.all (·.oneCell') = true)
    (h : wpListIn F n P ops Q rest (a.put o.dst undef) (w0.alloc (.cells cells t))) : wpListIn F n P ops Q (o :: rest) a (w0.alloc (.cells cur t)) := by
  refine wpListIn_store_mid hg ty x y ho w0.heap.size 0 cells hx hy (there_of_blk (Blk.new w0 t cur) 0 _ (by omega)) hi h1 ?_
  rw [alloc_setCells w0 t cur cells hs]
  exact h
end
theorem size_ents (e : E) : (entL e).toArray.size = (entL default).toArray.size := by simp [length_entL]
/-- The entries lie in a block below n0. -/
def EntsB (n0 : Nat) (W : World) (v : Value) (l : List E) : Prop := Ents W v l ∧ ∀ k, rowOf v k → k < n0
theorem EntsB.below {n0 : Nat} {A B : World} {v : Value} {l : List E} (h : EntsB n0 A v l) (hb : Below n0 A B) : EntsB n0 B v l := by
  refine ⟨⟨h.1.1, ?_⟩, h.2⟩
  rcases h.1.2 with h2 | ⟨g, o, cap, cur, rfl, hbk, r⟩
  · exact .inl h2
  · exact .inr ⟨g, o, cap, cur, rfl, hbk.below hb (h.2 g rfl), r⟩
abbrev encE (e : E) : Array Value := #[entV e]
def upL (l : List E) (k : Nat) : List E := l.take k
theorem upL_succ (l : List E) {k : Nat} (hk : k < l.length) : l.take (k + 1) = l.take k ++ [l.getD k default] := by
  rw [List.take_succ_eq_append_getElem hk]; simp [hk]
set_option maxRecDepth 100000 in
set_option maxHeartbeats 2000000 in
/-- The iterator's function over a row that has entries. -/
theorem values1_in (F : Fence) (n : Nat) (h43 : F.fn 43) (hro : F.round = none) (hn : 1 ≤ n) (y Bs n0 g o len cap : Nat) (l : List E) (hlen : l.length = len) (hpos : 0 < len) (hmax : len ≤ 1000) (B : Nat) (J Jx : List E → World → Prop)
    (hY : ∀ pre x W, J pre W → pre.length < len → YieldAt F (n - 1) Try.prog y (encE x) W fun e W' =>
      (e = .returned (.bool true) ∧ J (pre ++ [x]) W' ∧ Below n0 W W') ∨ (e = .returned (.bool false) ∧ Jx (pre ++ [x]) W'))
    (hJa : AbidesFrom B J) (W : World) (hn0 : n0 ≤ W.heap.size) (hBs : W.cell? ⟨Bs, 0, none⟩ = some (.slice (some ⟨g, o, none⟩) len cap)) (hE : EntsB n0 W (.slice (some ⟨g, o, none⟩) len cap) l) (h0 : J [] W) :
    CallsIn F n Try.prog 43 #[.func (.yield y) #[] #[], .pointer (some ⟨Bs, 0, none⟩)] W fun e W' => (∃ v, e = .returned v) ∧
      ((∃ ys, ys = l ∧ J ys W') ∨ (∃ pre, pre <+: l ∧ Jx pre W')) := by
  have HE := Lib.hid hE
  have HL := Lib.hid hlen
  clear hE hlen
  refine callsIn_of_wp Try.func43 rfl h43 ?_ hro
  simp only [Try.ntmps43, List.size_toArray, List.length_cons, List.length_nil, Nat.reduceAdd, Nat.reduceSub, Array.replicate_succ, Array.replicate_zero, List.push_toArray, List.append_toArray, List.nil_append, List.cons_append]
  gi_wp2
  gi_loopw [7] (fun i wr => ∃ k : Nat, k ≤ len ∧ i = .int .i64 k ∧ J (l.take k) wr ∧ Below n0 W wr)
    (fun i _ => len - (intOf i).toNat)
  case atStart => exact ⟨0, Nat.zero_le _, rfl, h0, Below.refl _ _⟩
  case round =>
    obtain ⟨k, hk, rfl, hJs, hnx⟩ := hrel
    by_cases hlt : k < len
    · have hE := HE.out.below hnx
      have hkl : k < l.length := by rw [HL.out]; exact hlt
      have hE1 : Ents wr (.slice (some ⟨g, o, none⟩) l.length cap) l := by rw [HL.out]; exact hE.1
      obtain ⟨hc, -, -⟩ := hE1.at' k hkl
      obtain ⟨x, hx⟩ : ∃ x, x = l.getD k default := ⟨_, rfl⟩
      rw [← hx] at hc
      have hpre : (l.take k).length < len := by rw [List.length_take]; omega
      have hJ1 : J (l.take k) (wr.alloc (.cells (entL x).toArray 47)) := hJa _ _ _ none hJs (World.grownBy_alloc wr _ none) (fun r e => by cases e)
      obtain ⟨fn, tmps, assign, body, hy, hR⟩ := hY _ x _ hJ1 hpre
      have hB : (wr.alloc (.cells (entL x).toArray 47)).rangeAt wr.heap.size 0 (entL x) := by simpa using rangeAt_of_blk (Blk.new wr 47 (entL x).toArray)
      have hx2 : l.take (k + 1) = l.take k ++ [x] := by rw [hx]; exact upL_succ l hkl
      have HX := Lib.hid hx2
      have HA := Lib.hid (show Below n0 wr (wr.alloc (.cells (entL x).toArray 47)) from (Below.refl _ _).alloc (Nat.le_trans hn0 hnx.size) _)
      clear hE hE1 hx hpre hJ1 hx2
      gi_wp2_with (first
        | (with_reducible refine wpListIn_load_mid rfl 47 (.tmp 9) rfl g (o + k * 5) (by with_unfolding_all rfl) (entL x) _ hc Try.underlying47 rfl (info47 x) ?_)
        | (with_reducible refine wpListIn_alloc_run rfl 47 rfl (entL default).toArray zero47 ?_)
        | (refine wpListIn_store_new rfl 47 (.tmp 4) (.tmp 10) rfl (entL x).toArray (by rfl) (by rfl) (size_ents x) (info47 x) (one_ent x) ?_)
        | (with_reducible refine wpListIn_load_mid rfl 47 (.tmp 4) rfl wr.heap.size 0 (by with_unfolding_all rfl) (entL x) _ hB Try.underlying47 rfl (info47 x) ?_)
        | fail)
      refine hR.mono ?_
      rintro e W3 (⟨rfl, hJ3, hk3⟩ | ⟨rfl, hJx3⟩)
      · clear hR hy
        gi_wp2
        go_roundw
        case rel => exact ⟨k + 1, by omega, by simp, by rw [HX.out]; exact hJ3, hnx.trans (HA.out.trans hk3)⟩
        case measure => simp [intOf]; omega
      · clear hR hy
        gi_wp2
        refine bodyPost_ret (results_none rfl _ _ _) rfl ?_
        exact ⟨⟨_, rfl⟩, .inr ⟨_, by rw [← HX.out]; exact List.take_prefix _ _, hJx3⟩⟩
    · obtain rfl : k = len := by omega
      gi_wp2
      go_end0
      refine ⟨⟨_, rfl⟩, .inl ⟨_, rfl, ?_⟩⟩
      rw [← HL.out, List.take_length] at hJs
      exact hJs
set_option maxRecDepth 100000 in
set_option maxHeartbeats 1000000 in
/-- .. over a row without entries: no round. -/
theorem values1_nil_in (F : Fence) (n : Nat) (h43 : F.fn 43) (hro : F.round = none) (y Bs : Nat) (A : Option Addr) (cap : Nat) (J : List E → World → Prop) (W : World) (hBs : W.cell? ⟨Bs, 0, none⟩ = some (.slice A 0 cap)) (h0 : J [] W) :
    CallsIn F n Try.prog 43 #[.func (.yield y) #[] #[], .pointer (some ⟨Bs, 0, none⟩)] W fun e W' => (∃ v, e = .returned v) ∧ J [] W' := by
  refine callsIn_of_wp Try.func43 rfl h43 ?_ hro
  simp only [Try.ntmps43, List.size_toArray, List.length_cons, List.length_nil, Nat.reduceAdd, Nat.reduceSub, Array.replicate_succ, Array.replicate_zero, List.push_toArray, List.append_toArray, List.nil_append, List.cons_append]
  gi_wp2
  gi_loopw [7] (fun i wr => i = .int .i64 0 ∧ J [] wr) (fun _ _ => 0)
  case atStart => exact ⟨rfl, h0⟩
  case round =>
    obtain ⟨rfl, hJs⟩ := hrel
    gi_wp2
    go_end0
    exact ⟨⟨_, rfl⟩, hJs⟩
set_option maxHeartbeats 1000000 in
/-- The row is boxed; the function value captures the box. -/
theorem values_in (F : Fence) (n : Nat) (h31 : F.fn 31) (hro : F.round = none) (a : Option Addr) (len cap : Nat) (w : World) :
    CallsIn F n Try.prog 31 #[.slice a len cap] w fun e w' => e = .returned (.func (.func 43) #[] #[.pointer (some ⟨w.heap.size, 0, none⟩)]) ∧ w' = w.alloc (.cells #[.slice a len cap] 56) := by
  refine callsIn_of_wp Try.func31 rfl h31 ?_ hro
  simp only [Try.ntmps31, List.size_toArray, List.length_cons, List.length_nil, Nat.reduceAdd, Nat.reduceSub, Array.replicate_succ, Array.replicate_zero, List.push_toArray, List.append_toArray, List.nil_append, List.cons_append]
  gi_wp2
  go_ret
  exact ⟨rfl, rfl⟩
/-- What 'Values' hands back is an iterator over the entries. -/
theorem values_stops (F : Fence) (n : Nat) (h43 : F.fn 43) (hro : F.round = none) (hn : 1 ≤ n) (Bs n0 : Nat) (v : Value) (l : List E) (hmax : l.length ≤ 1000) (w : World) (hBs : Bs < w.heap.size) (hn0 : n0 ≤ w.heap.size)
    (hc : w.cell? ⟨Bs, 0, none⟩ = some v) (hE : EntsB n0 w v l) :
    SeqStopsK F n Try.prog 43 #[.pointer (some ⟨Bs, 0, none⟩)] encE (Below n0) (fun ys => ys = l) (fun pre => pre <+: l) l.length w := fun y J Jx W hW hJa _ hY h0 => by
  have hc' := (hW.cell (p := ⟨Bs, 0, none⟩) hBs).trans hc
  have hE' := hE.below (hW.mono hn0)
  rcases Nat.eq_zero_or_pos l.length with hz | hp
  · obtain ⟨A, cap, rfl, _⟩ := hE.1.shape
    rw [hz] at hc'
    have hl : l = [] := List.eq_nil_of_length_eq_zero hz
    exact (values1_nil_in F n h43 hro y Bs A cap J W hc' h0).mono fun e W' ⟨he, hj⟩ => ⟨he, .inl ⟨[], hl.symm, hj⟩⟩
  · obtain ⟨g, o, cap, rfl, _⟩ := hE.1.all hp
    exact values1_in F n h43 hro hn y Bs n0 g o l.length cap l rfl hp hmax _ J Jx hY hJa W (Nat.le_trans hn0 hW.size) hc' hE' h0
theorem bs26 (e : E) (W : World) : (Instr.buildSlice 26 1 #[(0, entV e)]).run Try.prog W = .ok (.slice (some ⟨W.heap.size, 0, none⟩) 1 1) (W.alloc (.cells (entL e).toArray 47)) := by
  obtain ⟨e1, e2, e3, e4, e5⟩ := e
  kernel_rfl
theorem one_all (e : E) : ∀ u ∈ entL e, u.oneCell' = true := by simp [entL, Value.oneCell']
theorem cell_new_row (w : World) (xs : List Value) (t : TypeId) : ∀ j u, xs[j]? = some u → (w.alloc (.cells xs.toArray t)).cell? ((⟨w.heap.size, 0, none⟩ : Addr).add j) = some u := by
  intro j u hj
  have h := (Blk.new w t xs.toArray).cell j
  rw [show (⟨w.heap.size, 0, none⟩ : Addr).add j = ⟨w.heap.size, j, none⟩ from by unfold Addr.add; split <;> simp_all]
  rw [h]; simpa using hj
theorem qC_snoc (l : List E) (x : E) : qC (l ++ [x]) = qC l ++ entL x := by simp [qC]
/-- The block of the loop's variable lies on while nothing but walks' objects turn. -/
theorem axOwn (B : Nat) (x : E) (f : Nat → Act) (a' : Act) : OwnFrom B (fun (_ : Unit) W => ∃ p, B ≤ p ∧ Blk W p 47 (entL x).toArray ∧ a' = f p) := by
  refine Own.from (fun s X Y row h hg hr => ?_) B
  obtain ⟨p, hp, hb, ha⟩ := h
  refine ⟨p, hp, (hg.block p hb.lt (fun e => ?_)).trans hb, ha⟩
  obtain ⟨o, ho, hc⟩ := hr p e.symm
  rw [show X.heap[p]? = _ from hb] at ho; cases ho; cases hc
set_option maxRecDepth 100000 in
set_option maxHeartbeats 2000000 in
theorem appendSeq_in (F : Fence) (n : Nat) (h50 : F.fn 50) (hro : F.round = none) (hn : 3 ≤ n) (gf : Nat) (lb : Array Value) (hFg : F.fn gf) (eg : ∀ args w, (callFunc gf args).run Try.prog w = .ok (.enter gf args) w)
    (l : List E) (hmax : l.length ≤ 1000) (w : World)
    (hseq : SeqStopsK F (n - 1) Try.prog gf lb encE (Below w.heap.size) (fun ys => ys = l) (fun pre => pre <+: l) l.length w) :
    CallsIn F n Try.prog 50 #[.slice none 0 0, .func (.func gf) #[] lb] w fun e W' => ∃ v, e = .returned v ∧ W'.ownsRow w.heap.size 47 5 v l.length (qC l) ∧ Below w.heap.size w W' := by
  have h1 : 1 ≤ n := by omega
  obtain ⟨i0, hi0, hz0, hz1, hz2⟩ := info_parts infoE47
  refine callsIn_of_wp_marks Try.func50 rfl h50 ?_ hro
  simp only [Try.ntmps50, List.size_toArray, List.length_cons, List.length_nil, Nat.reduceAdd, Nat.reduceSub, Array.replicate_succ, Array.replicate_zero, List.push_toArray, List.append_toArray, List.nil_append, List.cons_append]
  gi_wp2_with fail
  have bO := Boxed.new w 26 (.slice none 0 0)
  have hB0 : Below w.heap.size w (w.alloc (.cells #[.slice none 0 0] 26)) := (Below.refl _ w).alloc (Nat.le_refl _) _
  have hI : OwnFrom (w.alloc (.cells #[.slice none 0 0] 26)).heap.size (fun (pre : List E) W => (∃ v, Boxed W w.heap.size 26 v ∧ W.ownsRow w.heap.size 47 5 v pre.length (qC pre) ∧ True) ∧ Below w.heap.size w W) :=
    OwnFrom.and (Own.from (holdsRow_own w.heap.size w.heap.size 26 47 5 (fun pre => pre.length) (fun pre => qC pre) (fun pre v => True)) _) (ownFrom_below (Nat.le_refl _) (by simp))
  refine wpIn_rangeFunc_ownH hro h1 (gf := gf) (lb := lb) rfl hFg eg hseq belowK_t (belowK_b (by simp)) hB0 (fun _ => rfl)
    (fun pre W => (∃ v, Boxed W w.heap.size 26 v ∧ W.ownsRow w.heap.size 47 5 v pre.length (qC pre) ∧ True) ∧ Below w.heap.size w W)
    (fun _ _ _ => False) hI
    (fun _ _ _ _ _ hs _ _ => hs)
    ⟨⟨_, bO, World.ownsRow_nil _ _ _ _, trivial⟩, hB0⟩
    (fun x a' W => ∃ p, (w.alloc (.cells #[.slice none 0 0] 26)).heap.size ≤ p ∧ Blk W p 47 (entL x).toArray ∧ a' = (fun p : Nat => { tmps := #[.slice none 0 0, .func (.func gf) #[] lb, .pointer (some ⟨w.heap.size, 0, none⟩), undef, .slice none 0 0, .pointer (some ⟨p, 0, none⟩), .func (.func gf) #[] lb, entV x, undef, undef, undef, undef, undef], defers := [] }) p)
    (fun x a' => axOwn _ x _ a') ?assign ?body ?done ?stop
  case assign =>
    intro y pre x W K hi hK
    simp only [encE, List.zip_toArray, List.zip_cons_cons, List.zip_nil_left, List.zip_nil_right, List.foldl_toArray, List.foldl_toArray', List.foldl_cons, List.foldl_nil, List.setIfInBounds_toArray, List.set_cons_zero, List.set_cons_succ]
    gi_wp2_with (first
      | (with_reducible refine wpListIn_alloc_run rfl 47 rfl (entL default).toArray zero47 ?_)
      | (refine wpListIn_store_new rfl 47 (.tmp 5) (.tmp 7) rfl (entL x).toArray (by rfl) (by rfl) (size_ents x) (info47 x) (one_ent x) ?_)
      | fail)
    refine hK _ _ ((KeepsOthers.alloc W _).from _) ((Below.refl _ W).alloc hi.2.size _) (hI.alloc _ hi) ⟨W.heap.size, ?_, Blk.new _ _ _, rfl⟩
    have := bO.lt
    obtain ⟨v, hv, _⟩ := hi.1
    have := hv.lt
    simp; omega
  case body =>
    rintro y pre x a' W - - ⟨⟨v, hv, hrow, -⟩, hB⟩ ⟨p, hp, hb, rfl⟩ hlt
    have hc := hv.cell
    have hbr : W.rangeAt p 0 (entL x) := by simpa using rangeAt_of_blk hb
    gi_wp2_with (first
      | (with_reducible refine wpListIn_load_mid rfl 47 (.tmp 5) rfl p 0 (by with_unfolding_all rfl) (entL x) _ hbr Try.underlying47 rfl (info47 x) ?_)
      | (with_reducible refine wpListIn_run _ _ rfl (by with_unfolding_all rfl) (by intro c; simp) (exec_bs x W _ _ 26 9 rfl (by with_unfolding_all rfl) (bs26 x W)) ?_)
      | (gi_at_builtin
         refine wpListIn_append_own _ rfl _ _ 26 rfl w.heap.size 47 i0 _ 5 56 Try.underlying26 hi0 hz0 hz1 hz2 rfl (by decide) _ _ _ rfl (hrow.alloc _) ⟨W.heap.size, 0, none⟩ 1 1 (entL x) rfl (length_entL x) (cell_new_row _ _ _) (one_all x) (by unfold maxLen; omega) (by omega) (by have := hB.size; simp; omega) ?_
         intro v' w1 hown' hgrow _
         obtain ⟨g', cap', rfl⟩ := ownsRow_succ hown'
         obtain ⟨hv1, hv2, hr2, hk2, hb2⟩ := hv.appended (by decide) hrow hB.size (Nat.le_refl _) hown' hgrow
         have hc1 := hv1.cell
         have hf1 := hv1.frozen)
      | fail)
    have hr3 : (w1.setCell ⟨w.heap.size, 0, none⟩ (.slice (some ⟨g', 0, none⟩) (pre.length + 1) cap')).ownsRow w.heap.size 47 5 (.slice (some ⟨g', 0, none⟩) (pre.length + 1) cap') (pre ++ [x]).length (qC (pre ++ [x])) := by rw [qC_snoc, List.length_append]; exact hr2
    exact ⟨hk2.from _, hb2, ⟨_, hv2, hr3⟩, hB.trans hb2⟩
  case done =>
    rintro D ys W hD rfl ⟨⟨v, hv, hrow, -⟩, hB⟩ hK
    have hc := hv.cell
    gi_wp2
    refine ⟨by simp, .inl ⟨_, _, rfl, run_takeDeferred hK, ?_⟩⟩
    exact ⟨_, results_tmp rfl _ _ _, v, rfl, ownsRow_putObj hrow _ hK rfl, hB.trans (belowK_b (w := w) (Nat.le_refl _) W D _ _ (by simp at hD; omega) hK rfl rfl)⟩
  case stop =>
    rintro D c pre W _ _ h _
    exact h.elim
set_option maxHeartbeats 1000000 in
theorem collect_in (F : Fence) (n : Nat) (h41 : F.fn 41) (h50 : F.fn 50) (hro : F.round = none) (hn : 4 ≤ n) (gf : Nat) (lb : Array Value) (hFg : F.fn gf) (eg : ∀ args w, (callFunc gf args).run Try.prog w = .ok (.enter gf args) w)
    (l : List E) (hmax : l.length ≤ 1000) (w : World)
    (hseq : SeqStopsK F (n - 1 - 1) Try.prog gf lb encE (Below w.heap.size) (fun ys => ys = l) (fun pre => pre <+: l) l.length w) :
    CallsIn F n Try.prog 41 #[.func (.func gf) #[] lb] w fun e W' => ∃ v, e = .returned v ∧ W'.ownsRow w.heap.size 47 5 v l.length (qC l) ∧ Below w.heap.size w W' := by
  have h1 : 1 ≤ n := by omega
  refine callsIn_of_wp Try.func41 rfl h41 ?_ hro
  simp only [Try.ntmps41, List.size_toArray, List.length_cons, List.length_nil, Nat.reduceAdd, Nat.reduceSub, Array.replicate_succ, Array.replicate_zero, List.push_toArray, List.append_toArray, List.nil_append, List.cons_append]
  gi_wp2_with (gi_at_call 50; refine (appendSeq_in F (n - 1) h50 hro (by omega) gf lb hFg eg l hmax _ hseq).mono ?_; rintro e w1 ⟨v, rfl, hr, hb⟩)
  go_ret
  exact ⟨v, rfl, hr, hb⟩
/-- 'Values', then 'Collect': a row of one's own with the same entries. -/
theorem collect_any (l : List E) (hmax : l.length ≤ 1000) (v : Value) (w : World) (Bs : Nat) (hBs : Bs < w.heap.size) (hc : w.cell? ⟨Bs, 0, none⟩ = some v) (hE : EntsB w.heap.size w v l) :
    Calls Try.prog 41 #[.func (.func 43) #[] #[.pointer (some ⟨Bs, 0, none⟩)]] w fun e W' => ∃ v, e = .returned v ∧ W'.ownsRow w.heap.size 47 5 v l.length (qC l) ∧ Below w.heap.size w W' :=
  callsIn_wide.1 (collect_in Fence.wide 6 trivial trivial rfl (by decide) 43 _ trivial (enters_of Try.func43 (by kernel_rfl) rfl) l hmax w
    (values_stops Fence.wide 4 trivial rfl (by decide) Bs w.heap.size v l hmax w hBs (Nat.le_refl _) hc hE))
end Go.Proofs.Ytkagfnocpllcpaa
