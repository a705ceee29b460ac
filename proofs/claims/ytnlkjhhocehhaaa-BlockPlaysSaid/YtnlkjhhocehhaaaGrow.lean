/- A region that draws its order, in which reads may come in whatever order and however late, while the other operations come up one after the other and lay new memory alone: one walk, in an order that is said, serves every order. -/
import Derived.Test.YtnlkjhhocehhaaaLate
namespace Go.Proofs.Ytnlkjhhocehhaaa
set_option linter.unusedVariables false
open Go Go.RowKit
section
variable {P : Program} {ops : Array Oper} {md : Region.Mode} {Q' : Exit → Act → World → Prop}
def geB (B : Nat) : Nat → Prop := fun k => B ≤ k
theorem geB_not {B g : Nat} (h : g < B) : ¬ geB B g := Nat.not_le.2 h
theorem fr_geB {B B' : Nat} {w w' : World} (h : Fr (geB B') w w') (hB : B ≤ B') : Fr (geB B) w w' := h.mono (fun k _ hk => Nat.le_trans hB hk)
/-- Every order; each step but T leaves the blocks below B as they were; B may rise. -/
def wpAnyB (P : Program) (md : Region.Mode) (ops : Array Oper) (T : Nat) (Q : Exit → Act → World → Prop) : Nat → Nat → Array Bool → Act → World → Prop
  | 0, _, listed, a, w => Region.ready md ops listed = [] ∧ Q .normal a w
  | fuel + 1, B, listed, a, w => (Region.ready md ops listed = [] → Q .normal a w) ∧
      ∀ i ∈ Region.ready md ops listed, wpOp P ops Q i (fun a' w' => (i ≠ T → Fr (geB B) w w') ∧ ∃ B', B ≤ B' ∧ wpAnyB P md ops T Q fuel B' (listed.setIfInBounds i true) a' w') a w
theorem wpAny_of_B {T : Nat} : ∀ (f B : Nat) (listed : Array Bool) (a : Act) (w : World), wpAnyB P md ops T Q' f B listed a w → wpAny P md ops Q' f listed a w
  | 0, _, _, _, _, h => h
  | f + 1, _, _, _, _, h => ⟨h.1, fun i hi => wpOp_mono (fun a' w' h' => let ⟨B', _, h''⟩ := h'.2; wpAny_of_B f B' _ a' w' h'') (h.2 i hi)⟩
def Closed (md : Region.Mode) (ops : Array Oper) (listed : Array Bool) : Prop :=
  ∀ j oj, ops[j]? = some oj → listed.getD j false = true → ∀ e ∈ oj.after, Region.binds md e = true → listed.getD e.on false = true
theorem Closed.set {listed : Array Bool} {k : Nat} (hcl : Closed md ops listed) (hr : k ∈ Region.ready md ops listed) : Closed md ops (listed.setIfInBounds k true) := by
  obtain ⟨_, ok, hok, hall⟩ := mem_ready.1 hr
  intro j oj hj hl e he hb
  by_cases hjk : k = j
  · subst hjk
    have : oj = ok := Option.some.inj (hj.symm.trans hok)
    subst this
    exact getD_set_true (hall e he hb)
  · rw [getD_set_ne false hjk] at hl
    exact getD_set_true (hcl j oj hj hl e he hb)
/-- Until all of H have come up t2 does not. -/
theorem sink_key {t2 : Nat} {H : List Nat} (hs : sinkL md ops t2 H = true) (hlt : ∀ i ∈ H, i < ops.size) {listed : Array Bool} (hsz : listed.size = ops.size) (hcl : Closed md ops listed) {i : Nat} (hin : i ∈ H) (hun : listed.getD i true = false) :
    t2 ∉ Region.ready md ops listed := by
  suffices aux : ∀ (L : List Nat), sinkL md ops t2 L = true → (∀ i ∈ L, i < ops.size) → (∃ i ∈ L, listed.getD i true = false) → t2 ∉ Region.ready md ops listed from aux H hs hlt ⟨i, hin, hun⟩
  intro L
  induction L with
  | nil => intro _ _ h; obtain ⟨i, hi, _⟩ := h; cases hi
  | cons k rest ih =>
    intro hs hlt h
    simp only [sinkL, Bool.and_eq_true] at hs
    obtain ⟨h1, h2⟩ := hs
    by_cases hk : listed.getD k true = false
    · intro hr
      obtain ⟨j, hj, hw⟩ := List.any_eq_true.1 h1
      obtain ⟨oj, hoj, e, he, hb, hon⟩ := Region.waitsFor_spec hw
      rw [List.mem_append, List.mem_singleton] at hj
      rcases hj with hj | rfl
      · cases hl : listed.getD j false with
        | true =>
          have h3 := hcl j oj hoj hl e he hb
          rw [hon, getD_both hk] at h3
          cases h3
        | false =>
          have hjs : j < listed.size := by rw [hsz]; exact hlt j (List.mem_cons_of_mem _ hj)
          exact ih h2 (fun i hi => hlt i (List.mem_cons_of_mem _ hi)) ⟨j, hj, getD_in hjs hl⟩ hr
      · obtain ⟨_, ot, hot, hall⟩ := mem_ready.1 hr
        have : ot = oj := Option.some.inj (hot.symm.trans hoj)
        subst this
        have h3 := hall e he hb
        rw [hon, getD_both hk] at h3
        cases h3
    · obtain ⟨i, hi, hun⟩ := h
      rcases List.mem_cons.1 hi with rfl | hi
      · exact absurd hun hk
      · exact ih h2 (fun i hi => hlt i (List.mem_cons_of_mem _ hi)) ⟨i, hi, hun⟩
/-- A read may be taken first. -/
theorem wpAnyB_first {T i B0 : Nat} {oi : Oper} {v : Value} {w0 : World} (hi : ops[i]? = some oi) (hsel : ∀ (j : Nat) (o : Oper) cs b, ops[j]? = some o → o.op ≠ .select cs b)
    (hQ : ∀ c a w, Q' (.panic c) (a.put oi.dst v) w → Q' (.panic c) a w)
    (key : ∀ listed : Array Bool, listed.size = ops.size → Closed md ops listed → listed.getD i true = false → T ∉ Region.ready md ops listed) :
    ∀ (f B : Nat) (listed : Array Bool) (a : Act) (w : World), B0 ≤ B → listed.size = ops.size → Closed md ops listed →
      (∀ j oj, ops[j]? = some oj → j ≠ i → listed.getD j true = false → (∀ e ∈ oj.after, Region.binds md e = true → e.on ≠ i) → oi.apart ops oj = true) →
      i ∈ Region.ready md ops listed → Fr (geB B0) w0 w → YieldsPure P ops (fun W => Fr (geB B0) w0 W) oi v a →
      wpAnyB P md ops T Q' f B (listed.setIfInBounds i true) (a.put oi.dst v) w → wpAnyB P md ops T Q' (f + 1) B listed a w := by
  intro f
  induction f with
  | zero =>
    intro B listed a w hBB hsz hcl _ hr hC hy Hh
    refine ⟨fun h => (by rw [h] at hr; cases hr), fun j hj => ?_⟩
    by_cases hji : j = i
    · subst hji; exact hy.wpOp hi hC ⟨fun _ => Fr.refl _ _, B, Nat.le_refl _, Hh⟩
    · have := ready_mono hj hji
      rw [Hh.1] at this
      cases this
  | succ f ih =>
    intro B listed a w hBB hsz hcl hfree hr hC hy Hh
    refine ⟨fun h => (by rw [h] at hr; cases hr), fun j hj => ?_⟩
    by_cases hji : j = i
    · subst hji; exact hy.wpOp hi hC ⟨fun _ => Fr.refl _ _, B, Nat.le_refl _, Hh⟩
    · have h1 := Hh.2 j (ready_mono hj hji)
      obtain ⟨hjun, oj, hoj, hall⟩ := mem_ready.1 hj
      have hun := (mem_ready.1 hr).1
      have hjt : j ≠ T := fun e => key listed hsz hcl hun (e ▸ hj)
      have hnot : ∀ e ∈ oj.after, Region.binds md e = true → e.on ≠ i := fun e he hb heq => by
        have h1 := hall e he hb
        rw [heq, getD_both hun] at h1
        cases h1
      have h2 := wpOp_put' hoj (hfree j oj hoj hji hjun hnot) (fun cs b => hsel i oi cs b hi) (fun cs b => hsel j oj cs b hoj) hQ hy h1
      have hfree' : ∀ k ok, ops[k]? = some ok → k ≠ i → (listed.setIfInBounds j true).getD k true = false →
          (∀ e ∈ ok.after, Region.binds md e = true → e.on ≠ i) → oi.apart ops ok = true := fun k ok hk hki hun hno => by
        refine hfree k ok hk hki ?_ hno
        by_cases hjk : j = k
        · subst hjk; exact hjun
        · rw [getD_set_ne true hjk] at hun; exact hun
      refine wpOp_mono (fun a' w' h3 => ?_) h2
      have hb := h3.2.1 hjt
      obtain ⟨B', hB', h4⟩ := h3.2.2
      refine ⟨fun _ => hb, B', hB', ?_⟩
      rw [Array.setIfInBounds_comm _ _ (Ne.symm hji)] at h4
      exact ih B' (listed.setIfInBounds j true) a' w' (Nat.le_trans hBB hB') (by simpa using hsz) (hcl.set hj) hfree' (ready_mono hr (Ne.symm hji)) (hC.trans (fr_geB hb hBB)) h3.1 h4
/-- Reads in this order, then what k asks. -/
def lexS (md : Region.Mode) (ops : Array Oper) (k : Array Bool → Bool) : List Nat → Array Bool → Bool
  | [], listed => k listed
  | r :: rs, listed => (Region.ready md ops listed).contains r && Region.free md ops listed r && (match ops[r]? with | some o => noEnterB o | none => false) && lexS md ops k rs (listed.setIfInBounds r true)
theorem wpAnyB_lex {T g B : Nat} {Lq : Act → Prop} {w : World} {k : Array Bool → Bool} (hsel : Region.noSelect ops = true) (hQ : ∀ c a d v w, Q' (.panic c) (Act.put a d v) w → Q' (.panic c) a w)
    (key : ∀ (i : Nat) (listed : Array Bool), i < ops.size → listed.size = ops.size → Closed md ops listed → listed.getD i true = false → i ≠ T → T ∉ Region.ready md ops listed)
    (hL : ∀ listed a, listed.size = ops.size → Closed md ops listed → k listed = true → Lq a → wpAnyB P md ops T Q' g B listed a w) :
    ∀ (rs : List Nat) (listed : Array Bool) (a : Act), (∀ r ∈ rs, r ≠ T) → listed.size = ops.size → Closed md ops listed → lexS md ops k rs listed = true → wpQuiet P ops (fun W => Fr (geB B) w W) Lq (pick ops rs) a →
      wpAnyB P md ops T Q' (rs.length + g) B listed a w
  | [], listed, a, _, hsz, hcl, hB, h => by rw [List.length_nil, Nat.zero_add]; exact hL listed a hsz hcl hB h
  | r :: rs, listed, a, hrT, hsz, hcl, hB, h => by
    simp only [lexS, Bool.and_eq_true] at hB
    obtain ⟨⟨⟨hr, hf⟩, hn⟩, hB'⟩ := hB
    have hr' : r ∈ Region.ready md ops listed := by simpa using hr
    obtain ⟨hun, o, h0, _⟩ := mem_ready.1 hr'
    have hlt : r < ops.size := (Array.getElem?_eq_some_iff.1 h0).1
    rw [h0] at hn
    simp only [pick, List.filterMap_cons, h0] at h
    have hst : qOp P ops (fun W => Fr (geB B) w W) r (wpQuiet P ops (fun W => Fr (geB B) w W) Lq (pick ops rs)) a := by unfold qOp; simp only [h0]; exact h
    obtain ⟨v, hy, hK⟩ := yieldsIn_of_qOp h0 hst
    rw [List.length_cons, show rs.length + 1 + g = (rs.length + g) + 1 by omega]
    exact wpAnyB_first h0 (Region.noSelect_spec hsel) (fun c a w => hQ c a _ v w) (fun l hs hc hu => key r l hlt hs hc hu (hrT r (by simp))) _ B listed a w (Nat.le_refl _) hsz hcl (Region.free_spec h0 hf) hr' (Fr.refl _ _) (YieldsPure.of_quiet hn hy)
      (wpAnyB_lex hsel hQ key hL rs _ _ (fun i hi => hrT i (by simp [hi])) (by simpa using hsz) (hcl.set hr') hB' hK)
def segsB (md : Region.Mode) (ops : Array Oper) : List (List Nat × Nat) → List Nat → Array Bool → Bool
  | [], fin, listed => lexS md ops (fun l => (Region.ready md ops l).isEmpty) fin listed
  | (rs, t) :: rest, fin, listed => lexS md ops (fun l => decide (Region.ready md ops l = [t]) && segsB md ops rest fin (l.setIfInBounds t true)) rs listed
def segsLen : List (List Nat × Nat) → List Nat → Nat
  | [], fin => fin.length
  | (rs, _) :: rest, fin => rs.length + (segsLen rest fin + 1)
theorem class_eq (B : Nat) (w : World) : (fun W => Fr (geB B) w W) = (fun W => ∃ q : Kept (geB B) w, W = q.x) :=
  funext fun W => propext ⟨fun h => ⟨⟨W, h⟩, rfl⟩, fun ⟨q, h⟩ => by rw [h]; exact q.fr⟩
/-- The walk: reads, then one operation, and so on. -/
def wpSegs (P : Program) (ops : Array Oper) (T : Nat) (Q : Exit → Act → World → Prop) : Nat → List (List Nat × Nat) → List Nat → Act → World → Prop
  | B, [], fin, a, w => wpQuiet P ops (fun W => ∃ q : Kept (geB B) w, W = q.x) (fun a' => Q .normal a' w) (pick ops fin) a
  | B, (rs, t) :: rest, fin, a, w => wpQuiet P ops (fun W => ∃ q : Kept (geB B) w, W = q.x) (fun a' => wpOp P ops Q t (fun a'' w' => (t ≠ T → Fr (geB B) w w') ∧ ∃ B', B ≤ B' ∧ wpSegs P ops T Q B' rest fin a'' w') a' w) (pick ops rs) a
theorem wpAnyB_of_segs {T : Nat} (hsel : Region.noSelect ops = true) (hQ : ∀ c a d v w, Q' (.panic c) (Act.put a d v) w → Q' (.panic c) a w)
    (key : ∀ (i : Nat) (listed : Array Bool), i < ops.size → listed.size = ops.size → Closed md ops listed → listed.getD i true = false → i ≠ T → T ∉ Region.ready md ops listed) :
    ∀ (segs : List (List Nat × Nat)) (fin : List Nat) (B : Nat) (listed : Array Bool) (a : Act) (w : World), (∀ s ∈ segs, ∀ r ∈ s.1, r ≠ T) → (∀ r ∈ fin, r ≠ T) → listed.size = ops.size → Closed md ops listed →
      segsB md ops segs fin listed = true → wpSegs P ops T Q' B segs fin a w → wpAnyB P md ops T Q' (segsLen segs fin) B listed a w
  | [], fin, B, listed, a, w, _, hf, hsz, hcl, hB, h => by
    unfold wpSegs at h
    rw [← class_eq] at h
    have := wpAnyB_lex (P := P) (Q' := Q') (T := T) (g := 0) (B := B) (w := w) hsel hQ key (fun listed' a' _ _ hk hq => ⟨by simpa using hk, hq⟩) fin listed a hf hsz hcl hB h
    simpa [segsLen] using this
  | (rs, t) :: rest, fin, B, listed, a, w, hs, hf, hsz, hcl, hB, h => by
    unfold wpSegs at h
    rw [← class_eq] at h
    refine wpAnyB_lex (P := P) (Q' := Q') (T := T) (g := segsLen rest fin + 1) (B := B) (w := w) hsel hQ key (fun listed' a' hsz' hcl' hk hq => ?_) rs listed a (hs (rs, t) (by simp)) hsz hcl hB h
    simp only [Bool.and_eq_true, decide_eq_true_eq] at hk
    refine ⟨fun h1 => (by rw [hk.1] at h1; cases h1), fun i hi => ?_⟩
    have hi' := hi
    rw [hk.1] at hi
    have hik : i = t := by simpa using hi
    subst hik
    exact wpOp_mono (fun a'' w' h' => let ⟨B', hB', h''⟩ := h'.2; ⟨h'.1, B', hB', wpAnyB_of_segs hsel hQ key rest fin B' _ a'' w' (fun s hs' => hs s (by simp [hs'])) hf (by simpa using hsz') (hcl'.set hi') hk.2 h''⟩) hq
def growB (md : Region.Mode) (ops : Array Oper) (T : Nat) (segs : List (List Nat × Nat)) (fin : List Nat) : Bool :=
  Region.noSelect ops && (decide (ops.size ≤ T) || sinkL md ops T ((List.range ops.size).filter (· != T))) && segs.all (fun s => s.1.all (· != T)) && fin.all (· != T) &&
  decide (segsLen segs fin = ops.size) && segsB md ops segs fin (Array.replicate ops.size false)
theorem wp_region_grow {id : Nat} {Q : Exit → Act → World → Prop} {a : Act} {w : World} {l : List Oper} (T : Nat) (segs : List (List Nat × Nat)) (fin : List Nat)
    (hm : P.follows .mixedOrders = true) (hB : growB .any l.toArray T segs fin = true)
    (h : wpSegs P l.toArray T (NoPan Q) w.heap.size segs fin a w.drew) : (Code.region id l.toArray true).wp P Q a w := by
  refine Code.wp_mono (Q := NoPan Q) NoPan.to ?_
  simp only [growB, Bool.and_eq_true, decide_eq_true_eq, Bool.or_eq_true] at hB
  obtain ⟨⟨⟨⟨⟨hsel, hT⟩, hst⟩, hft⟩, hlen⟩, hseg⟩ := hB
  have hst' : ∀ s ∈ segs, ∀ r ∈ s.1, r ≠ T := fun s hs r hr => by
    have h1 := List.all_eq_true.1 hst s hs
    have h2 := List.all_eq_true.1 h1 r hr
    simpa using h2
  have hft' : ∀ r ∈ fin, r ≠ T := fun r hr => by
    have h2 := List.all_eq_true.1 hft r hr
    simpa using h2
  refine wp_region_any hm (wpAny_of_B (T := T) _ w.heap.size _ _ _ ?_)
  have := wpAnyB_of_segs (P := P) (Q' := NoPan Q) (md := .any) (T := T) hsel (fun _ _ _ _ _ h => h) (fun i listed hi hsz hcl hun hne => by
    rcases hT with hT | hT
    · intro hr
      obtain ⟨_, o, ho, _⟩ := mem_ready.1 hr
      have := (Array.getElem?_eq_some_iff.1 ho).1
      omega
    · exact sink_key hT (fun j hj => by simp at hj; simpa using hj.1) hsz hcl (by simp; exact ⟨by simpa using hi, hne⟩) hun)
    segs fin w.heap.size (Array.replicate l.toArray.size false) a w.drew hst' hft' (by simp) (fun j oj _ hl => (by rw [getD_replicate_false] at hl; cases hl)) hseg h
  rw [hlen] at this
  exact this
theorem wpSegs_cons {T t B : Nat} {rs : List Nat} {rest : List (List Nat × Nat)} {fin : List Nat} {Q : Exit → Act → World → Prop} {a : Act} {w : World} {L : List Oper} {o : Oper} (hL : pick ops rs = L) (ho : ops[t]? = some o)
    (h : wpQuiet P ops (fun W => ∃ q : Kept (geB B) w, W = q.x) (fun a' => if Region.wanted o (yielded ops a'.tmps) = true then ∀ K : Act → World → Prop, (∀ B' a'' w', B ≤ B' → (t ≠ T → Fr (geB B) w w') → wpSegs P ops T Q B' rest fin a'' w' → K a'' w') → o.wp P a' w K Q else wpSegs P ops T Q B rest fin (a'.put o.dst undef) w) L a) :
    wpSegs P ops T Q B ((rs, t) :: rest) fin a w := by
  unfold wpSegs
  rw [hL]
  refine wpQuiet_mono (fun a' h' => ?_) _ _ h
  unfold wpOp
  simp only [ho]
  split at h'
  · rename_i hg
    rw [if_pos hg]
    exact .inl (h' _ (fun B' a'' w' h1 h2 h3 => ⟨h2, B', h1, h3⟩))
  · rename_i hg
    rw [if_neg hg]
    exact ⟨fun _ => Fr.refl _ _, B, Nat.le_refl _, h'⟩
theorem wpSegs_nil {T B : Nat} {fin : List Nat} {Q : Exit → Act → World → Prop} {a : Act} {w : World} {L : List Oper} (hL : pick ops fin = L)
    (h : wpQuiet P ops (fun W => ∃ q : Kept (geB B) w, W = q.x) (fun a' => Q .normal a' w) L a) : wpSegs P ops T Q B [] fin a w := by
  unfold wpSegs
  rw [hL]
  exact h
/-- A whole array is read. -/
theorem quiet_load_blk {C : World → Prop} {K : Act → Prop} {a : Act} {o : Oper} (ty : TypeId) (x : Operand) (ho : o.op = .load ty x)
    (g : Nat) (t : TypeId) (cs : Array Value) (d : TypeDesc) (hx : a.eval x = .pointer (some ⟨g, 0, none⟩)) (hb : ∀ W, C W → Blk W g t cs)
    (hu : P.underlying ty = some d) (hd : (match d with | .struct _ | .array _ _ => true | _ => false) = true) (hi : (P.info? ty).map (·.size) = some cs.size)
    (hk : K (a.put o.dst (.agg cs))) : o.quiet P a C K := by
  refine ⟨.agg cs, fun w hw => ?_, hk⟩
  unfold Oper.quietAt execOp
  simp only [ho, hx, Instr.loadAt, Instr.sureAddr, Sem.run_bind, Sem.run_pure, Result.andThen_ok, run_loadVar_row w g t ty cs (0, 0) d (hb w hw) hu hd hi]
  exact ⟨rfl, rfl⟩
theorem Kept.blk {w : World} {B g : Nat} {t : TypeId} {cs : Array Value} (h : Blk w g t cs) (hg : g < B) : ∀ W, (∃ q : Kept (geB B) w, W = q.x) → Blk W g t cs := fun W ⟨q, hq⟩ => by
  rw [hq]; exact h.fr q.fr (geB_not hg)
end
attribute [go_sem] geB_not
end Go.Proofs.Ytnlkjhhocehhaaa
