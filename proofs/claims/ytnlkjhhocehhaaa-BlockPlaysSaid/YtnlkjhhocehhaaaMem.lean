/- Laws on memory for the walks: frames, blocks that are known whole, rows that a call owns, slices of bytes; append, copy and stores of whole arrays. -/
import Derived.Test.YtnlkjhhocehhaaaBase
import Derived.Deep.Draws
import Derived.Laws.Rows
import Derived.Deep.MidRow
import Derived.ArgAppend
import Derived.Laws.CopyOwn
namespace Go.Proofs.Ytnlkjhhocehhaaa
open Go Go.RowKit

/-! ### Frames: all blocks of w but those of S stand in w' -/
structure Fr (S : Nat → Prop) (w w' : World) : Prop where
  os : w'.os = w.os
  tape : w'.tape = w.tape
  output : w'.output = w.output
  size : w.heap.size ≤ w'.heap.size
  block : ∀ k, k < w.heap.size → ¬ S k → w'.heap[k]? = w.heap[k]?

def nob : Nat → Prop := fun _ => False
def one (g : Nat) : Nat → Prop := fun k => k = g
section
variable {S S' : Nat → Prop} {a b c w w' : World}
theorem Fr.refl (S : Nat → Prop) (w : World) : Fr S w w := ⟨rfl, rfl, rfl, Nat.le_refl _, fun _ _ _ => rfl⟩
theorem Fr.trans (h : Fr S a b) (k : Fr S b c) : Fr S a c :=
  ⟨k.os.trans h.os, k.tape.trans h.tape, k.output.trans h.output, Nat.le_trans h.size k.size, fun i hi hn => (k.block i (Nat.lt_of_lt_of_le hi h.size) hn).trans (h.block i hi hn)⟩
theorem Fr.mono (h : Fr S a b) (hs : ∀ k, k < a.heap.size → S k → S' k) : Fr S' a b := ⟨h.os, h.tape, h.output, h.size, fun i hi hn => h.block i hi (fun hk => hn (hs i hi hk))⟩
/-- The second step turns blocks of S, or new ones. -/
theorem Fr.then (h : Fr S a b) (k : Fr S' b c) (hs : ∀ i, S' i → S i ∨ a.heap.size ≤ i) : Fr S a c :=
  ⟨k.os.trans h.os, k.tape.trans h.tape, k.output.trans h.output, Nat.le_trans h.size k.size, fun i hi hn =>
    (k.block i (Nat.lt_of_lt_of_le hi h.size) (fun hk => (hs i hk).elim hn (fun h1 => by omega))).trans (h.block i hi hn)⟩
theorem Fr.alloc (h : Fr S a b) (o : Obj) : Fr S a (b.alloc o) :=
  ⟨h.os, h.tape, h.output, Nat.le_trans h.size (by simp), fun i hi hn => (Below.heap_alloc b o i (Nat.lt_of_lt_of_le hi h.size)).trans (h.block i hi hn)⟩
theorem Fr.drew (h : Fr S a b) : Fr S a b.drew := ⟨h.os, h.tape, h.output, h.size, h.block⟩
theorem Fr.drewN (h : Fr S a b) (n : Nat) : Fr S a (b.drewN n) := ⟨h.os, h.tape, h.output, h.size, h.block⟩
theorem Fr.setCell (h : Fr S a b) {p : Addr} (hp : S p.block ∨ a.heap.size ≤ p.block) (u : Value) : Fr S a (b.setCell p u) :=
  ⟨h.os, h.tape, h.output, by simpa [World.setCell] using h.size, fun i hi hn => (Below.heap_setCell b p u i (by
    rintro rfl
    rcases hp with hp | hp
    · exact hn hp
    · omega)).trans (h.block i hi hn)⟩
theorem Fr.setCell' (h : Fr S a b) {g o : Nat} {s : Option Nat} (hp : S g ∨ a.heap.size ≤ g) (u : Value) : Fr S a (b.setCell ⟨g, o, s⟩ u) := h.setCell hp u
theorem Fr.of_below (h : Below w.heap.size w w') (S : Nat → Prop) : Fr S w w' := ⟨h.os, h.tape, h.output, h.size, fun i hi _ => h.block i hi⟩
theorem Fr.of_grown {row : Option Nat} (h : w.grownBy w' row) (hr : ∀ k, row = some k → S k) : Fr S w w' :=
  ⟨h.os, h.tape, h.output, h.size, fun i hi hn => h.block i hi (fun e => hn (hr i e.symm))⟩
theorem Fr.below {B : Nat} (h : Fr S w w') (hB : B ≤ w.heap.size) (hs : ∀ k, S k → B ≤ k) : Below B w w' :=
  ⟨h.os, h.tape, h.output, h.size, fun i hi => h.block i (by omega) (fun hk => by have := hs i hk; omega)⟩
theorem Fr.below_nob (h : Fr nob w w') : Below w.heap.size w w' := h.below (Nat.le_refl _) (fun _ h => h.elim)
theorem Fr.cell (h : Fr S w w') {g o : Nat} {s : Option Nat} (hg : g < w.heap.size) (hn : ¬ S g) : w'.cell? ⟨g, o, s⟩ = w.cell? ⟨g, o, s⟩ := World.cell?_of_block (h.block g hg hn)
theorem Fr.frozen (h : Fr S w w') {g o : Nat} {s : Option Nat} (hg : g < w.heap.size) (hn : ¬ S g) : w'.frozen? ⟨g, o, s⟩ = w.frozen? ⟨g, o, s⟩ := World.frozen?_of_block (h.block g hg hn)
end

/-! ### A block that is known whole -/
def Blk (w : World) (g : Nat) (t : TypeId) (cs : Array Value) : Prop := w.heap[g]? = some (.cells cs t (0, 0))
section
variable {S : Nat → Prop} {w w' : World} {g : Nat} {t : TypeId} {cs : Array Value}
theorem Blk.lt (h : Blk w g t cs) : g < w.heap.size := by
  rcases Nat.lt_or_ge g w.heap.size with hlt | hge
  · exact hlt
  · unfold Blk at h; rw [Array.getElem?_eq_none hge] at h; cases h
theorem Blk.cell (h : Blk w g t cs) (i : Nat) : w.cell? ⟨g, i, none⟩ = cs[i]? := cell_of_row w g i cs t (0, 0) h
theorem Blk.frozen (h : Blk w g t cs) (i : Nat) : w.frozen? ⟨g, i, none⟩ = false := by
  unfold Blk at h
  simp [World.frozen?, h]
theorem Blk.new (w : World) (t : TypeId) (cs : Array Value) : Blk (w.alloc (.cells cs t)) w.heap.size t cs := heap_alloc_new w _
theorem Blk.drew (h : Blk w g t cs) : Blk w.drew g t cs := h
theorem Blk.drewN (h : Blk w g t cs) (n : Nat) : Blk (w.drewN n) g t cs := h
theorem Blk.alloc (h : Blk w g t cs) (o : Obj) : Blk (w.alloc o) g t cs := (Below.heap_alloc w o g h.lt).trans h
theorem Blk.set_ (h : Blk w g t cs) (i : Nat) (u : Value) : Blk (w.setCell ⟨g, i, none⟩ u) g t (cs.setIfInBounds i u) := by
  unfold Blk at h ⊢
  simp [World.setCell, Array.getElem?_modify, h]
theorem Blk.far (h : Blk w g t cs) {p : Addr} (hp : g ≠ p.block) (u : Value) : Blk (w.setCell p u) g t cs := (Below.heap_setCell w p u g hp).trans h
theorem Blk.far' (h : Blk w g t cs) {b o : Nat} {s : Option Nat} (hp : g ≠ b) (u : Value) : Blk (w.setCell ⟨b, o, s⟩ u) g t cs := h.far hp u
theorem Blk.below {B : Nat} (h : Blk w g t cs) (hb : Below B w w') (hg : g < B) : Blk w' g t cs := (hb.block g hg).trans h
theorem Blk.fr (h : Blk w g t cs) (hf : Fr S w w') (hg : ¬ S g) : Blk w' g t cs := (hf.block g h.lt hg).trans h
theorem Blk.ne_ {g' : Nat} {t' : TypeId} {cs' : Array Value} (h : Blk w g t cs) (h' : Blk w g' t' cs') (hne : t ≠ t') : g ≠ g' := by
  rintro rfl
  unfold Blk at h h'
  rw [h] at h'
  injection h' with h'
  injection h' with _ ht
  exact hne ht
theorem Blk.setCells : ∀ (vs : List Value) (o : Nat) (w : World) (cs : Array Value), Blk w g t cs → o + vs.length ≤ cs.size →
    Blk (w.setCells g o vs) g t (cs.toList.take o ++ vs ++ cs.toList.drop (o + vs.length)).toArray
  | [], o, w, cs, h, _ => by simpa [World.setCells] using h
  | v :: r, o, w, cs, h, hl => by
    have hl' : o + 1 + r.length ≤ cs.size := by simp at hl; omega
    have ih := Blk.setCells r (o + 1) _ _ (h.set_ o v) (by simpa using hl')
    have e : ((cs.setIfInBounds o v).toList.take (o + 1) ++ r ++ (cs.setIfInBounds o v).toList.drop (o + 1 + r.length)) = cs.toList.take o ++ (v :: r) ++ cs.toList.drop (o + (v :: r).length) := by
      simp only [Array.toList_setIfInBounds, List.length_cons]
      have ho : o < cs.toList.length := by simp at hl ⊢; omega
      have hm : min o cs.size = o := by simp at ho; omega
      rw [List.drop_set_of_lt (by omega), List.take_set, List.take_succ_eq_append_getElem ho, List.set_append_right _ _ (by simp [hm])]
      simp [hm, show o + 1 + r.length = o + (r.length + 1) by omega]
    rw [e] at ih
    exact ih
theorem heap_setCells : ∀ (vs : List Value) (o : Nat) (w : World) (k : Nat), k ≠ g → (w.setCells g o vs).heap[k]? = w.heap[k]?
  | [], _, _, _, _ => rfl
  | v :: r, o, w, k, hk => (heap_setCells r (o + 1) _ k hk).trans (Below.heap_setCell w _ v k hk)
theorem size_setCells : ∀ (vs : List Value) (o : Nat) (w : World), (w.setCells g o vs).heap.size = w.heap.size
  | [], _, _ => rfl
  | v :: r, o, w => by rw [World.setCells, size_setCells r]; simp [World.setCell]
theorem fr_setCells (vs : List Value) (o : Nat) (w : World) : Fr (one g) w (w.setCells g o vs) := by
  refine ⟨?_, ?_, ?_, by rw [size_setCells]; exact Nat.le_refl _, fun k _ hn => heap_setCells vs o w k hn⟩
  all_goals
    induction vs generalizing o w with
    | nil => rfl
    | cons v r ih => exact ih (o + 1) _
theorem there_of_blk (h : Blk w g t cs) (o n : Nat) (hn : o + n ≤ cs.size) : w.there g o n := fun j hj =>
  ⟨by rw [h.cell]; simp; omega, h.frozen _⟩
theorem rangeAt_of_blk (h : Blk w g t cs) : w.rangeAt g 0 cs.toList := fun j v hv => by rw [h.cell, Nat.zero_add]; simpa using hv
end

section
variable {P : Program} {ops : Array Oper} {rest : List Oper} {o : Oper} {a : Act} {w : World} {Q : Exit → Act → World → Prop}
/-- An operation whose run is known. -/
theorem wpList_run (v : Value) (w' : World) (hg : o.guard = none) (h : (execOp a.eval o).run P w = .ok (.value v) w') (hk : wpList P ops Q rest (a.put o.dst v) w') : wpList P ops Q (o :: rest) a w :=
  wpList_plain hg fun _ hK => by unfold Oper.wp; rw [h]; exact hK _ _ hk
/-- A new variable of a type whose zero cells are known. -/
theorem wpList_alloc_run (hg : o.guard = none) (ty : TypeId) (ho : o.op = .alloc ty) (cs : Array Value)
    (h : ∀ W : World, (Instr.alloc ty true (.tuple #[])).run P W = .ok (.pointer (some ⟨W.heap.size, 0, none⟩)) (W.alloc (.cells cs ty)))
    (hk : wpList P ops Q rest (a.put o.dst (.pointer (some ⟨w.heap.size, 0, none⟩))) (w.alloc (.cells cs ty))) : wpList P ops Q (o :: rest) a w :=
  wpList_run _ _ hg (by unfold execOp; rw [ho]; simp only [Sem.run_bind, h, Result.andThen_ok, Sem.run_pure]) hk
/-- An array that is built of constants. -/
theorem wpList_build_run (hg : o.guard = none) (ty : TypeId) (parts : Array (Nat × Operand)) (ho : o.op = .build ty parts) (v : Value)
    (h : (Instr.build ty (parts.map fun (i, x) => (i, a.eval x))).run P w = .ok v w)
    (hk : wpList P ops Q rest (a.put o.dst v) w) : wpList P ops Q (o :: rest) a w :=
  wpList_run _ _ hg (by unfold execOp; rw [ho]; simp only [Sem.run_bind, h, Result.andThen_ok, Sem.run_pure]) hk
/-- A whole array into a block that is known whole. -/
theorem wpList_store_blk (hgd : o.guard = none) (ty : TypeId) (x y : Operand) (ho : o.op = .store ty x y)
    (g : Nat) (t : TypeId) (cur cells : Array Value) (hx : a.eval x = .pointer (some ⟨g, 0, none⟩)) (hy : a.eval y = .agg cells)
    (hb : Blk w g t cur) (hs : cells.size = cur.size) (hi : (P.info? ty).map (·.size) = some cells.size) (h1 : cells.all (·.oneCell') = true)
    (h : ∀ w', Blk w' g t cells → Fr (one g) w w' → wpList P ops Q rest (a.put o.dst undef) w') : wpList P ops Q (o :: rest) a w := by
  refine wpList_store_mid hgd ty x y ho g 0 cells hx hy (there_of_blk hb 0 _ (by omega)) hi h1 (h _ ?_ (fr_setCells _ _ _))
  have := Blk.setCells (t := t) cells.toList 0 w cur hb (by simp; omega)
  have e : (cur.toList.take 0 ++ cells.toList ++ cur.toList.drop (0 + cells.toList.length)) = cells.toList := by simp [hs]
  rw [e] at this
  simpa using this
/-- A whole array out of a block that is known whole. -/
theorem wpList_load_blk (hgd : o.guard = none) (ty : TypeId) (x : Operand) (ho : o.op = .load ty x)
    (g : Nat) (t : TypeId) (cs : Array Value) (d : TypeDesc) (hx : a.eval x = .pointer (some ⟨g, 0, none⟩)) (hb : Blk w g t cs)
    (hu : P.underlying ty = some d) (hd : (match d with | .struct _ | .array _ _ => true | _ => false) = true) (hi : (P.info? ty).map (·.size) = some cs.size)
    (h : wpList P ops Q rest (a.put o.dst (.agg cs)) w) : wpList P ops Q (o :: rest) a w :=
  wpList_load_row hgd ty x ho g hx t cs (0, 0) d hb hu hd hi h
end

/-! ### Rows that a call owns: the slice may begin in the midst of its block -/
def Own (w : World) (e : TypeId) (s : Nat) (v : Value) (n : Nat) (xs : List Value) : Prop :=
  xs.length = n * s ∧ ((v = .slice none 0 0 ∧ n = 0) ∨
    ∃ g o cap cur, v = .slice (some ⟨g, o, none⟩) n cap ∧ Blk w g e cur ∧ n ≤ cap ∧ cap ≤ maxLen ∧ o + cap * s ≤ cur.size ∧ ∀ j u, xs[j]? = some u → cur[o + j]? = some u)
/-- The block of a slice's row. -/
def rowOf (v : Value) : Nat → Prop := fun k => v.ownBlock = some k
section
variable {S : Nat → Prop} {w w' : World} {e : TypeId} {s n : Nat} {v : Value} {xs : List Value}
theorem Own.nil (w : World) (e : TypeId) (s : Nat) : Own w e s (.slice none 0 0) 0 [] := ⟨by simp, .inl ⟨rfl, rfl⟩⟩
theorem Own.lt (h : Own w e s v n xs) {k : Nat} (hk : rowOf v k) : k < w.heap.size := by
  rcases h.2 with ⟨rfl, _⟩ | ⟨g, o, cap, cur, rfl, hb, _⟩
  · cases hk
  · have : g = k := by simpa [rowOf, Value.ownBlock] using hk
    subst this; exact hb.lt
theorem Own.fr (h : Own w e s v n xs) (hf : Fr S w w') (hs : ∀ k, S k → ¬ rowOf v k) : Own w' e s v n xs := by
  refine ⟨h.1, ?_⟩
  rcases h.2 with h2 | ⟨g, o, cap, cur, rfl, hb, r⟩
  · exact .inl h2
  · exact .inr ⟨g, o, cap, cur, rfl, hb.fr hf (fun hk => hs g hk rfl), r⟩
theorem Own.blk_ne {g : Nat} {t : TypeId} {cs : Array Value} (h : Own w e s v n xs) (hb : Blk w g t cs) (hne : e ≠ t) : ¬ rowOf v g := by
  rcases h.2 with ⟨rfl, _⟩ | ⟨g', o, cap, cur, rfl, hb', _⟩
  · intro hk; cases hk
  · intro hk
    have : g' = g := by simpa [rowOf, Value.ownBlock] using hk
    exact hb'.ne_ hb hne this
theorem Own.of_owns {base : Nat} (h : w.ownsRow base e s v n xs) : Own w e s v n xs := by
  refine ⟨h.1, ?_⟩
  rcases h.2 with h2 | ⟨g, cap, cur, rfl, _, hh, h3, h4, h5, h6⟩
  · exact .inl h2
  · refine .inr ⟨g, 0, cap, cur, rfl, hh, h3, h4, by omega, fun j u hj => ?_⟩
    rw [← h6, List.getElem?_take] at hj
    split at hj
    · simpa using hj
    · cases hj
theorem Own.shape (h : Own w e s v n xs) : ∃ A cap, v = .slice A n cap ∧ n ≤ cap ∧ cap ≤ maxLen := by
  rcases h.2 with ⟨rfl, rfl⟩ | ⟨g, o, cap, cur, rfl, _, h1, h2, _⟩
  · exact ⟨none, 0, rfl, Nat.le_refl _, by simp [maxLen]⟩
  · exact ⟨_, cap, rfl, h1, h2⟩
/-- Where its cells lie. -/
theorem Own.cells (h : Own w e s v n xs) (hn : 0 < n) : ∃ g o cap, v = .slice (some ⟨g, o, none⟩) n cap ∧ g < w.heap.size ∧ rowOf v g ∧ ∀ j u, xs[j]? = some u → w.cell? ⟨g, o + j, none⟩ = some u := by
  rcases h.2 with ⟨_, rfl⟩ | ⟨g, o, cap, cur, rfl, hb, _, _, _, hx⟩
  · omega
  · exact ⟨g, o, cap, rfl, hb.lt, rfl, fun j u hj => by rw [hb.cell]; exact hx j u hj⟩
theorem Own.own_block {k : Nat} (h : Own w e s v n xs) (hk : rowOf v k) : ∃ cur, Blk w k e cur := by
  rcases h.2 with ⟨rfl, _⟩ | ⟨g, o, cap, cur, rfl, hb, _⟩
  · cases hk
  · have : g = k := by simpa [rowOf, Value.ownBlock] using hk
    subst this; exact ⟨cur, hb⟩
end

/-- A source of cells: nil, or cells that lie at an address. -/
def Src (w : World) (s : Nat) (A : Option Addr) (m : Nat) (news : List Value) : Prop :=
  news.length = m * s ∧ (0 < m → ∃ g o, A = some ⟨g, o, none⟩ ∧ g < w.heap.size ∧ ∀ j u, news[j]? = some u → w.cell? ⟨g, o + j, none⟩ = some u)
section
variable {S : Nat → Prop} {w w' : World} {e : TypeId} {s m : Nat} {A : Option Addr} {v : Value} {news : List Value}
theorem Src.fr (h : Src w s A m news) (hf : Fr S w w') (hs : ∀ g o, 0 < m → A = some ⟨g, o, none⟩ → ¬ S g) : Src w' s A m news :=
  ⟨h.1, fun hm => by
    obtain ⟨g, o, rfl, hg, hc⟩ := h.2 hm
    exact ⟨g, o, rfl, Nat.lt_of_lt_of_le hg hf.size, fun j u hj => (hf.cell hg (hs g o hm rfl)).trans (hc j u hj)⟩⟩
theorem Src.of_new (w : World) (t : TypeId) (cs : Array Value) (s : Nat) (hs : cs.size = s) : Src (w.alloc (.cells cs t)) s (some ⟨w.heap.size, 0, none⟩) 1 cs.toList :=
  ⟨by simp [hs], fun _ => ⟨_, _, rfl, by simp, fun j u hj => by rw [(Blk.new w t cs).cell, Nat.zero_add]; simpa using hj⟩⟩
theorem Src.of_own {cap : Nat} (h : Own w e s (.slice A m cap) m news) : Src w s A m news :=
  ⟨h.1, fun hm => by
    obtain ⟨g, o, cap', hv, hg, _, hc⟩ := h.cells hm
    injection hv with hv
    exact ⟨g, o, hv, hg, hc⟩⟩
end

section
variable {P : Program} (w : World)
theorem run_append_o (t ty e : TypeId) (i : TypeInfo) (z : Value) (s bytes : Nat) (ht : P.underlying t = some (.slice e)) (hi : P.info? e = some i) (hz : i.zero = some z)
    (hsize : i.size = s) (hby : i.bytes = bytes) (hzs : z.cells.size = s) (hsz : 0 < s)
    (v : Value) (n : Nat) (xs : List Value) (hown : Own w e s v n xs)
    (A : Option Addr) (m c : Nat) (news : List Value) (hr : Src w s A m news) (h1 : ∀ u ∈ news, u.oneCell' = true)
    (h63 : n + m ≤ maxLen) (hbytes : (n + m) * bytes ≤ 140737488355328) :
    ∃ v' w', (Builtin.append_ #[t, t] ty #[v, .slice A m c]).run P w = .ok v' w' ∧ Own w' e s v' (n + m) (xs ++ news) ∧ Fr (rowOf v) w w' ∧
      ∀ k, rowOf v' k → rowOf v k ∨ w.heap.size ≤ k := by
  subst hsize
  rcases Nat.eq_zero_or_pos m with h0 | h0
  · subst h0
    have hn : news = [] := List.eq_nil_of_length_eq_zero (by simpa using hr.1)
    subst hn
    refine ⟨v, w, ?_, by simpa using hown, Fr.refl _ _, fun k hk => .inl hk⟩
    rcases hown.2 with ⟨rfl, rfl⟩ | ⟨g, o, cap, cur, rfl, hb, hc, _⟩
    · rcases A with _ | ad
      · simp [Builtin.append_, run_underlying ht, sizeOf, typeInfo, hi, Builtin.lenOf, Builtin.firstCells]
      · simp [Builtin.append_, run_underlying ht, sizeOf, typeInfo, hi, Builtin.lenOf, Builtin.firstCells, loadCells, loadCellsFrom]
    · rcases A with _ | ad
      · simp [Builtin.append_, run_underlying ht, sizeOf, typeInfo, hi, Builtin.lenOf, Builtin.firstCells, hc, storeCells]
      · simp [Builtin.append_, run_underlying ht, sizeOf, typeInfo, hi, Builtin.lenOf, Builtin.firstCells, hc, storeCells, loadCells, loadCellsFrom]
  · obtain ⟨sg, so, rfl, _, hcells⟩ := hr.2 h0
    have hcells' : ∀ j u, news[j]? = some u → w.cell? ((⟨sg, so, none⟩ : Addr).add j) = some u := fun j u hj => by rw [Addr.add_mid]; exact hcells j u hj
    rcases hown.2 with ⟨rfl, rfl⟩ | ⟨g, o, cap, cur, rfl, hb, hc, hcm, hfit, hx⟩
    · have hxs : xs = [] := List.eq_nil_of_length_eq_zero (by simpa using hown.1)
      subst hxs
      obtain ⟨v', w', hrun, h2, h3, _⟩ := run_append_own (P := P) w w.heap.size t ty e i z i.size bytes ht hi hz rfl hby hzs hsz (.slice none 0 0) 0 [] (World.ownsRow_nil _ _ _ _) ⟨sg, so, none⟩ m c news hr.1 hcells' h1 h63 hbytes (Nat.le_refl _)
      refine ⟨v', w', hrun, Own.of_owns h2, Fr.of_grown h3 (fun k hk => by cases hk), fun k hk => .inr ?_⟩
      exact (h2.lt k hk).1
    · by_cases hroom : n + m ≤ cap
      · have hl : news.length = m * i.size := hr.1
        have hle : n * i.size + m * i.size ≤ cap * i.size := by rw [← Nat.add_mul]; exact Nat.mul_le_mul_right _ hroom
        have hrun := run_append_room_cells (P := P) w t ty e i ht hi g o n cap ⟨sg, so, none⟩ m c news hl hcells' h1 hroom
          (fun j hj => by rw [hb.cell]; simp; omega) (fun j hj => hb.frozen _)
        refine ⟨_, _, hrun, ⟨by rw [List.length_append, hown.1, hl, Nat.add_mul], .inr ⟨g, o, cap, _, rfl, Blk.setCells (t := e) news (o + n * i.size) w cur hb (by omega), hroom, hcm, ?_, ?_⟩⟩, (fr_setCells _ _ _).mono (fun k _ hk => by cases hk; rfl), fun k hk => .inl hk⟩
        · simp; omega
        · intro j u hj
          have hxl : xs.length = n * i.size := hown.1
          rw [List.getElem?_append] at hj
          simp only [List.getElem?_toArray, List.append_assoc]
          split at hj
          · rename_i hlt
            have hcj := hx j u hj
            rw [List.getElem?_append_left (by simp; omega), List.getElem?_take, if_pos (by omega)]
            simpa using hcj
          · rename_i hge
            have hjl : j - xs.length < news.length := (List.getElem?_eq_some_iff.1 hj).1
            rw [List.getElem?_append_right (by simp; omega), List.getElem?_append_left (by simp; omega)]
            rw [← hj]; congr 1; simp; omega
      · obtain ⟨v', w', hrun, h2, h3⟩ := run_append_arg_grows (P := P) w t ty e i z i.size bytes ht hi hz rfl hby hzs hsz ⟨g, o, none⟩ n cap xs hown.1 (fun j u hj => by rw [Addr.add_mid, hb.cell]; exact hx j u hj) ⟨sg, so, none⟩ m c news hr.1 hcells' (by omega) h63 hbytes
        exact ⟨v', w', hrun, Own.of_owns h2, Fr.of_grown h3 (fun k hk => by cases hk), fun k hk => .inr (h2.lt k hk).1⟩

theorem wpList_append_o {ops : Array Oper} {rest : List Oper} {o : Oper} {a : Act} {Q : Exit → Act → World → Prop} (hgd : o.guard = none) (sx x : Operand) (t : TypeId)
    (ho : o.op = .call { callee := .builtin .append, args := #[sx, x], argTypes := #[t, t] })
    (e : TypeId) (i : TypeInfo) (z : Value) (s bytes : Nat) (ht : P.underlying t = some (.slice e)) (hi : P.info? e = some i) (hz : i.zero = some z)
    (hsize : i.size = s) (hby : i.bytes = bytes) (hzs : z.cells.size = s) (hsz : 0 < s)
    (v : Value) (n : Nat) (xs : List Value) (hs : a.eval sx = v) (hown : Own w e s v n xs)
    (A : Option Addr) (m c : Nat) (news : List Value) (hx : a.eval x = .slice A m c) (hr : Src w s A m news) (h1 : ∀ u ∈ news, u.oneCell' = true)
    (h63 : n + m ≤ maxLen) (hbytes : (n + m) * bytes ≤ 140737488355328)
    (h : ∀ v' w', Own w' e s v' (n + m) (xs ++ news) → Fr (rowOf v) w w' → (∀ k, rowOf v' k → rowOf v k ∨ w.heap.size ≤ k) → wpList P ops Q rest (a.put o.dst v') w') : wpList P ops Q (o :: rest) a w :=
  wpList_plain hgd fun _ hK => by
    obtain ⟨v', w', hrun, h2, h3, h4⟩ := run_append_o (P := P) w t o.type e i z s bytes ht hi hz hsize hby hzs hsz v n xs hown A m c news hr h1 h63 hbytes
    unfold Oper.wp execOp
    simp only [ho, resolve, invoke, builtin, Sem.run_bind, Sem.run_pure, Result.andThen_ok, List.map_toArray, List.map_cons, List.map_nil, hs, hx, hrun]
    exact hK _ _ (h v' w' h2 h3 h4)
/-- .. at the operation. -/
theorem wp_append_o {o : Oper} {a : Act} {K : Act → World → Prop} {Q : Exit → Act → World → Prop} (sx x : Operand) (t : TypeId)
    (ho : o.op = .call { callee := .builtin .append, args := #[sx, x], argTypes := #[t, t] })
    (e : TypeId) (i : TypeInfo) (z : Value) (s bytes : Nat) (ht : P.underlying t = some (.slice e)) (hi : P.info? e = some i) (hz : i.zero = some z)
    (hsize : i.size = s) (hby : i.bytes = bytes) (hzs : z.cells.size = s) (hsz : 0 < s)
    (v : Value) (n : Nat) (xs : List Value) (hs : a.eval sx = v) (hown : Own w e s v n xs)
    (A : Option Addr) (m c : Nat) (news : List Value) (hx : a.eval x = .slice A m c) (hr : Src w s A m news) (h1 : ∀ u ∈ news, u.oneCell' = true)
    (h63 : n + m ≤ maxLen) (hbytes : (n + m) * bytes ≤ 140737488355328)
    (h : ∀ v' w', Own w' e s v' (n + m) (xs ++ news) → Fr (rowOf v) w w' → (∀ k, rowOf v' k → rowOf v k ∨ w.heap.size ≤ k) → K (a.put o.dst v') w') : o.wp P a w K Q := by
  obtain ⟨v', w', hrun, h2, h3, h4⟩ := run_append_o (P := P) w t o.type e i z s bytes ht hi hz hsize hby hzs hsz v n xs hown A m c news hr h1 h63 hbytes
  unfold Oper.wp execOp
  simp only [ho, resolve, invoke, builtin, Sem.run_bind, Sem.run_pure, Result.andThen_ok, List.map_toArray, List.map_cons, List.map_nil, hs, hx, hrun]
  exact h v' w' h2 h3 h4
/-- .. as one step of a region that draws its order. -/
theorem step_append_o {ops : Array Oper} {o : Oper} {a : Act} {K : Act → World → Prop} {Q : Exit → Act → World → Prop} {E : Prop} (hgd : o.guard = none) (sx x : Operand) (t : TypeId)
    (ho : o.op = .call { callee := .builtin .append, args := #[sx, x], argTypes := #[t, t] })
    (e : TypeId) (i : TypeInfo) (z : Value) (s bytes : Nat) (ht : P.underlying t = some (.slice e)) (hi : P.info? e = some i) (hz : i.zero = some z)
    (hsize : i.size = s) (hby : i.bytes = bytes) (hzs : z.cells.size = s) (hsz : 0 < s)
    (v : Value) (n : Nat) (xs : List Value) (hs : a.eval sx = v) (hown : Own w e s v n xs)
    (A : Option Addr) (m c : Nat) (news : List Value) (hx : a.eval x = .slice A m c) (hr : Src w s A m news) (h1 : ∀ u ∈ news, u.oneCell' = true)
    (h63 : n + m ≤ maxLen) (hbytes : (n + m) * bytes ≤ 140737488355328)
    (h : ∀ v' w', Own w' e s v' (n + m) (xs ++ news) → Fr (rowOf v) w w' → (∀ k, rowOf v' k → rowOf v k ∨ w.heap.size ≤ k) → K (a.put o.dst v') w') :
    if Region.wanted o (yielded ops a.tmps) = true then Oper.wp P o a w K Q else E := by
  have hw : Region.wanted o (yielded ops a.tmps) = true := by simp [Region.wanted, hgd]
  rw [if_pos hw]
  obtain ⟨v', w', hrun, h2, h3, h4⟩ := run_append_o (P := P) w t o.type e i z s bytes ht hi hz hsize hby hzs hsz v n xs hown A m c news hr h1 h63 hbytes
  unfold Oper.wp execOp
  simp only [ho, resolve, invoke, builtin, Sem.run_bind, Sem.run_pure, Result.andThen_ok, List.map_toArray, List.map_cons, List.map_nil, hs, hx, hrun]
  exact h v' w' h2 h3 h4
end

/-- copy into a block that is known whole. -/
theorem wpList_copy_blk {P : Program} {w : World} {ops : Array Oper} {rest : List Oper} {o : Oper} {a : Act} {Q : Exit → Act → World → Prop} (hgd : o.guard = none) (d s : Operand) (dT sT : TypeId)
    (ho : o.op = .call { callee := .builtin .copy, args := #[d, s], argTypes := #[dT, sT] }) (elem : TypeId) (hu : P.underlying dT = some (.slice elem)) (hsz : (P.info? elem).map (·.size) = some 1)
    (g off dLen dCap : Nat) (sp : Option Addr) (sLen sCap : Nat) (hd : a.eval d = .slice (some ⟨g, off, none⟩) dLen dCap) (hs : a.eval s = .slice sp sLen sCap)
    (cur : Array Value) (t : TypeId) (hg : Blk w g t cur) (cs : List Value) (hn : cs.length = Nat.min sLen dLen)
    (hpos : 0 < cs.length → ∃ sg so, sp = some ⟨sg, so, none⟩ ∧ ∀ j v, cs[j]? = some v → w.cell? ⟨sg, so + j, none⟩ = some v)
    (hfit : off + cs.length ≤ cur.size) (h1 : ∀ v ∈ cs, v.oneCell' = true)
    (h : ∀ w', Blk w' g t (cur.toList.take off ++ (cs ++ cur.toList.drop (off + cs.length))).toArray → Fr (one g) w w' → wpList P ops Q rest (a.put o.dst (goInt cs.length)) w') :
    wpList P ops Q (o :: rest) a w := by
  by_cases h0 : cs.length = 0
  · obtain rfl : cs = [] := List.eq_nil_of_length_eq_zero h0
    refine wpList_copy_nothing hgd d s dT sT ho elem hu hsz (some ⟨g, off, none⟩) sp dLen dCap sLen sCap hd hs (by simpa using hn.symm) ?_
    exact h w (by simpa using hg) (Fr.refl _ _)
  · obtain ⟨sg, so, rfl, hsrc⟩ := hpos (by omega)
    refine wpList_copy_own hgd d s dT sT ho elem hu hsz g off dLen dCap ⟨sg, so, none⟩ sLen sCap hd hs cur t hg cs hn (fun j v hj => by rw [Addr.add_mid]; exact hsrc j v hj) hfit h1 ?_
    exact h _ (setRow_heap w g _ _ t _ hg) ⟨rfl, rfl, rfl, by simp [World.setRow], fun k hk hn => setRow_other w g k _ hn⟩

/-! ### Slices of bytes -/
def byteVals (l : List UInt8) : List Value := l.map v8
theorem byteVals_append (a b : List UInt8) : byteVals (a ++ b) = byteVals a ++ byteVals b := by simp [byteVals]
theorem byteVals_one (l : List UInt8) : ∀ u ∈ byteVals l, u.oneCell' = true := by
  intro u hu; simp [byteVals] at hu; obtain ⟨x, _, rfl⟩ := hu; rfl
theorem byteVals_get (l : List UInt8) (j : Nat) (h : j < l.length) : (byteVals l)[j]? = some (v8 (l.getD j 0)) := by
  simp [byteVals, List.getElem?_map, List.getElem?_eq_getElem h]
theorem length_byteVals (l : List UInt8) : (byteVals l).length = l.length := by simp [byteVals]
/-- The slice '.slice A n c' holds the bytes l. -/
def Bytes (w : World) (A : Option Addr) (l : List UInt8) : Prop := Src w 1 A l.length (byteVals l)
theorem Bytes.nil (w : World) (A : Option Addr) : Bytes w A [] := ⟨by simp [byteVals], fun h => absurd h (by simp)⟩
theorem Bytes.at_ {w : World} {A : Option Addr} {l : List UInt8} (h : Bytes w A l) (hl : 0 < l.length) : ∃ g o, A = some ⟨g, o, none⟩ ∧ g < w.heap.size ∧ ∀ j, j < l.length → w.cell? ⟨g, o + j, none⟩ = some (.int .u8 (n8 (l.getD j 0))) := by
  obtain ⟨g, o, rfl, hg, hc⟩ := h.2 hl
  exact ⟨g, o, rfl, hg, fun j hj => hc j _ (byteVals_get l j hj)⟩
theorem Bytes.below {B : Nat} {w w' : World} {A : Option Addr} {l : List UInt8} (h : Bytes w A l) (hb : Below B w w') (hA : ∀ g o, A = some ⟨g, o, none⟩ → g < B) : Bytes w' A l :=
  ⟨h.1, fun hm => by
    obtain ⟨g, o, rfl, hg, hc⟩ := h.2 hm
    exact ⟨g, o, rfl, Nat.lt_of_lt_of_le hg hb.size, fun j u hj => (hb.cell (p := ⟨g, o + j, none⟩) (hA g o rfl)).trans (hc j u hj)⟩⟩
end Go.Proofs.Ytnlkjhhocehhaaa
