/- A region that draws its order: the operations of a list H (reads, and calls that leave a world of a class) may come up in any order, then the operations of a list T come up one after the other: one walk of H, then one walk of T, serves every order. -/
import Derived.Deep.Quiet
import Derived.StillTail
import Derived.Below
import Derived.KernelRfl
namespace Go.Proofs.Ytnlkjhhocehhaaa
open Go

section
variable {P : Program} {ops : Array Oper} {md : Region.Mode} {C : World → Prop}

def sinkL (md : Region.Mode) (ops : Array Oper) (t0 : Nat) : List Nat → Bool
  | [] => true
  | i :: rest => (rest ++ [t0]).any (fun j => Region.waitsFor md ops j i) && sinkL md ops t0 rest
def chainL (md : Region.Mode) (ops : Array Oper) : Nat → List Nat → Bool
  | _, [] => true
  | t, u :: rest => Region.waitsFor md ops u t && chainL md ops u rest
def seqL (md : Region.Mode) (ops : Array Oper) : List Nat → Array Bool → Bool
  | [], listed => (Region.ready md ops listed).isEmpty
  | t :: rest, listed => decide (Region.ready md ops listed = [t]) && seqL md ops rest (listed.setIfInBounds t true)
def lexL (md : Region.Mode) (ops : Array Oper) (T : List Nat) : List Nat → Array Bool → Bool
  | [], listed => seqL md ops T listed
  | k :: rest, listed => (Region.ready md ops listed).contains k && Region.free md ops listed k && lexL md ops T rest (listed.setIfInBounds k true)
def tailB (md : Region.Mode) (ops : Array Oper) (H : List Nat) (t0 : Nat) (T : List Nat) : Bool :=
  Region.noSelect ops && (List.range ops.size).all (fun i => H.contains i || (t0 :: T).contains i) && H.all (fun i => !(t0 :: T).contains i && decide (i < ops.size)) &&
  (t0 :: T).all (fun i => decide (i < ops.size)) &&
  sinkL md ops t0 H && chainL md ops t0 T && decide (H.length + (T.length + 1) = ops.size) && lexL md ops (t0 :: T) H (Array.replicate ops.size false)

structure HInv (md : Region.Mode) (ops : Array Oper) (H : List Nat) (listed : Array Bool) : Prop where
  size : listed.size = ops.size
  closed : ∀ j oj, ops[j]? = some oj → listed.getD j false = true → ∀ e ∈ oj.after, Region.binds md e = true → listed.getD e.on false = true
  tail : ∀ t, t < ops.size → t ∉ H → listed.getD t true = false

theorem HInv.set {H : List Nat} {i : Nat} {listed : Array Bool} (inv : HInv md ops H listed) (hi : i ∈ Region.ready md ops listed) (hin : i ∈ H) : HInv md ops H (listed.setIfInBounds i true) := by
  obtain ⟨_, oi, hoi, hall⟩ := mem_ready.1 hi
  refine ⟨by simp [inv.size], fun j oj hj hl e he hb => ?_, fun t ht ht' => by rw [getD_set_ne true (fun h => ht' (by rw [← h]; exact hin))]; exact inv.tail t ht ht'⟩
  by_cases hij : i = j
  · subst hij
    have : oj = oi := Option.some.inj (hj.symm.trans hoi)
    subst this
    exact getD_set_true (hall e he hb)
  · rw [getD_set_ne false hij] at hl
    exact getD_set_true (inv.closed j oj hj hl e he hb)

theorem sink_waits {H : List Nat} {t0 : Nat} {listed : Array Bool} (inv : HInv md ops H listed) :
    ∀ (L : List Nat), sinkL md ops t0 L = true → (∀ i ∈ L, i < ops.size) → (∃ i ∈ L, listed.getD i true = false) → t0 ∉ Region.ready md ops listed
  | [], _, _, h => by obtain ⟨i, hi, _⟩ := h; cases hi
  | k :: rest, hs, hlt, h => by
    simp only [sinkL, Bool.and_eq_true] at hs
    obtain ⟨h1, h2⟩ := hs
    by_cases hk : listed.getD k true = false
    · intro hr
      obtain ⟨j, hj, hw⟩ := List.any_eq_true.1 h1
      obtain ⟨oj, hoj, e, he, hb, hon⟩ := Region.waitsFor_spec hw
      rw [List.mem_append, List.mem_singleton] at hj
      rcases hj with hj | rfl
      · cases hl : listed.getD j false with
        | true =>
          have h3 := inv.closed j oj hoj hl e he hb
          rw [hon, getD_both hk] at h3
          cases h3
        | false =>
          have hjs : j < listed.size := by rw [inv.size]; exact hlt j (List.mem_cons_of_mem _ hj)
          exact sink_waits inv rest h2 (fun i hi => hlt i (List.mem_cons_of_mem _ hi)) ⟨j, hj, getD_in hjs hl⟩ hr
      · obtain ⟨_, ot, hot, hall⟩ := mem_ready.1 hr
        have : ot = oj := Option.some.inj (hot.symm.trans hoj)
        subst this
        have h3 := hall e he hb
        rw [hon, getD_both hk] at h3
        cases h3
    · obtain ⟨i, hi, hun⟩ := h
      rcases List.mem_cons.1 hi with rfl | hi
      · exact absurd hun hk
      · exact sink_waits inv rest h2 (fun i hi => hlt i (List.mem_cons_of_mem _ hi)) ⟨i, hi, hun⟩

theorem chain_waits {H : List Nat} {listed : Array Bool} (inv : HInv md ops H listed) :
    ∀ (T : List Nat) (t : Nat), chainL md ops t T = true → t ∉ H → (∀ u ∈ T, u ∉ H) → t < ops.size → (∀ u ∈ T, u < ops.size) → ∀ u ∈ T, u ∉ Region.ready md ops listed
  | [], _, _, _, _, _, _, _, hu => by cases hu
  | k :: rest, t, hc, ht, hT, htl, hTl, u, hu => by
    simp only [chainL, Bool.and_eq_true] at hc
    obtain ⟨h1, h2⟩ := hc
    rcases List.mem_cons.1 hu with rfl | hu
    · intro hr
      obtain ⟨oj, hoj, e, he, hb, hon⟩ := Region.waitsFor_spec h1
      obtain ⟨_, ot, hot, hall⟩ := mem_ready.1 hr
      have : ot = oj := Option.some.inj (hot.symm.trans hoj)
      subst this
      have h3 := hall e he hb
      rw [hon, getD_both (inv.tail t htl ht)] at h3
      cases h3
    · exact chain_waits inv rest k h2 (hT k (by simp)) (fun u hu => hT u (by simp [hu])) (hTl k (by simp)) (fun u hu => hTl u (by simp [hu])) u hu

def wpAnyH' (P : Program) (md : Region.Mode) (ops : Array Oper) (C : World → Prop) (H : List Nat) (L : Array Bool → Act → Prop) : Nat → Array Bool → Act → Prop
  | 0, listed, a => L listed a
  | f + 1, listed, a =>
    Region.ready md ops listed ≠ [] ∧ ∀ i ∈ Region.ready md ops listed, i ∈ H ∧ qOp P ops C i (wpAnyH' P md ops C H L f (listed.setIfInBounds i true)) a

theorem wpAny_of_headH {H : List Nat} {g : Nat} {L : Array Bool → Act → Prop} {Q' : Exit → Act → World → Prop} (hL : ∀ listed a w, C w → L listed a → wpAny P md ops Q' g listed a w) :
    ∀ (f : Nat) (listed : Array Bool) (a : Act) (w : World), C w → wpAnyH' P md ops C H L f listed a → wpAny P md ops Q' (f + g) listed a w
  | 0, listed, a, w, hC, h => by rw [Nat.zero_add]; exact hL _ _ _ hC h
  | f + 1, listed, a, w, hC, h => by
    rw [show f + 1 + g = (f + g) + 1 by omega]
    exact ⟨fun h0 => absurd h0 h.1, fun i hi => wpOp_of_qOp hC (fun a' w' hw' h' => wpAny_of_headH hL f _ a' w' hw' h') (h.2 i hi).2⟩

theorem wpAnyH_first {H : List Nat} {t0 : Nat} {T : List Nat} {i : Nat} {oi : Oper} {v : Value} {L : Array Bool → Act → Prop} (hi : ops[i]? = some oi) (hsel : ∀ (j : Nat) (o : Oper) cs b, ops[j]? = some o → o.op ≠ .select cs b)
    (hcov : ∀ j, j < ops.size → j ∈ H ∨ j ∈ t0 :: T) (hdis : ∀ j ∈ H, j ∉ t0 :: T ∧ j < ops.size) (hTl : ∀ j ∈ t0 :: T, j < ops.size)
    (hs : sinkL md ops t0 H = true) (hc : chainL md ops t0 T = true) (hin : i ∈ H)
    (hdone : ∀ listed a, L listed a → ∀ j ∈ Region.ready md ops listed, j ∈ t0 :: T) :
    ∀ (f : Nat) (listed : Array Bool) (a : Act), HInv md ops H listed →
      (∀ j oj, ops[j]? = some oj → j ≠ i → listed.getD j true = false → (∀ e ∈ oj.after, Region.binds md e = true → e.on ≠ i) → oi.apart ops oj = true) →
      i ∈ Region.ready md ops listed → YieldsIn P ops C oi v a →
      wpAnyH' P md ops C H L f (listed.setIfInBounds i true) (a.put oi.dst v) → wpAnyH' P md ops C H L (f + 1) listed a := by
  have hTH : ∀ u ∈ t0 :: T, u ∉ H := fun u hu hu' => (hdis u hu').1 hu
  have key : ∀ listed : Array Bool, HInv md ops H listed → listed.getD i true = false → ∀ j ∈ Region.ready md ops listed, j ∈ H := by
    intro listed inv hun j hj
    have hjl : j < ops.size := by
      obtain ⟨_, o, ho, _⟩ := mem_ready.1 hj
      exact (Array.getElem?_eq_some_iff.1 ho).1
    rcases hcov j hjl with h | h
    · exact h
    · exfalso
      rcases List.mem_cons.1 h with rfl | h
      · exact sink_waits inv H hs (fun i hi => (hdis i hi).2) ⟨i, hin, hun⟩ hj
      · exact chain_waits inv T t0 hc (hTH t0 (by simp)) (fun u hu => hTH u (by simp [hu])) (hTl t0 (by simp)) (fun u hu => hTl u (by simp [hu])) j h hj
  intro f
  induction f with
  | zero =>
    intro listed a inv _ hr hy Hh
    have hun := (mem_ready.1 hr).1
    refine ⟨fun h => (by rw [h] at hr; cases hr), fun j hj => ?_⟩
    refine ⟨key listed inv hun j hj, ?_⟩
    by_cases hji : j = i
    · subst hji; exact hy.qOp hi Hh
    · have h1 := hdone _ _ Hh j (ready_mono hj hji)
      exact absurd (key listed inv hun j hj) (hTH j h1)
  | succ f ih =>
    intro listed a inv hfree hr hy Hh
    have hun := (mem_ready.1 hr).1
    refine ⟨fun h => (by rw [h] at hr; cases hr), fun j hj => ?_⟩
    have hjH := key listed inv hun j hj
    refine ⟨hjH, ?_⟩
    by_cases hji : j = i
    · subst hji; exact hy.qOp hi Hh
    · have h1 := (Hh.2 j (ready_mono hj hji)).2
      obtain ⟨hjun, oj, hoj, hall⟩ := mem_ready.1 hj
      have hnot : ∀ e ∈ oj.after, Region.binds md e = true → e.on ≠ i := fun e he hb heq => by
        have h1 := hall e he hb
        rw [heq, getD_both hun] at h1
        cases h1
      have h2 := qOp_put hoj (hfree j oj hoj hji hjun hnot) (fun cs b => hsel i oi cs b hi) (fun cs b => hsel j oj cs b hoj) hy h1
      have hfree' : ∀ k ok, ops[k]? = some ok → k ≠ i → (listed.setIfInBounds j true).getD k true = false →
          (∀ e ∈ ok.after, Region.binds md e = true → e.on ≠ i) → oi.apart ops ok = true := fun k ok hk hki hun hno => by
        refine hfree k ok hk hki ?_ hno
        by_cases hjk : j = k
        · subst hjk; exact hjun
        · rw [getD_set_ne true hjk] at hun; exact hun
      refine qOp_mono (fun a' h3 => ih (listed.setIfInBounds j true) a' (inv.set hj hjH) hfree' (ready_mono hr (Ne.symm hji)) h3.1 ?_) h2
      rw [Array.setIfInBounds_comm _ _ hji]
      exact h3.2

/-- The operations of a list of numbers. -/
def pick (ops : Array Oper) (l : List Nat) : List Oper := l.filterMap (ops[·]?)

theorem seqL_ready {T : List Nat} {listed : Array Bool} (h : seqL md ops T listed = true) : ∀ j ∈ Region.ready md ops listed, j ∈ T := by
  cases T with
  | nil => intro j hj; simp only [seqL, List.isEmpty_iff] at h; rw [h] at hj; cases hj
  | cons t T =>
    intro j hj
    simp only [seqL, Bool.and_eq_true, decide_eq_true_eq] at h
    rw [h.1] at hj
    have : j = t := by simpa using hj
    simp [this]

theorem wpAny_of_seqL {Q' : Exit → Act → World → Prop} : ∀ (T : List Nat) (listed : Array Bool) (a : Act) (w : World),
    seqL md ops T listed = true → wpOps P ops Q' T a w → wpAny P md ops Q' T.length listed a w
  | [], _, _, _, hB, h => ⟨by simpa [seqL] using hB, h⟩
  | t :: T, listed, a, w, hB, h => by
    simp only [seqL, Bool.and_eq_true, decide_eq_true_eq] at hB
    refine ⟨fun h1 => (by rw [hB.1] at h1; cases h1), fun i hi => ?_⟩
    rw [hB.1] at hi
    have hik : i = t := by simpa using hi
    subst hik
    rw [wpOps_cons] at h
    exact wpOp_mono (fun a' w' h' => wpAny_of_seqL T _ a' w' hB.2 h') h

theorem wpOps_of_pick {Q' : Exit → Act → World → Prop} : ∀ (T : List Nat) (a : Act) (w : World), (∀ t ∈ T, t < ops.size) → wpList P ops Q' (pick ops T) a w → wpOps P ops Q' T a w
  | [], a, w, _, h => h
  | t :: T, a, w, ht, h => by
    have htl := ht t (by simp)
    have h0 : ops[t]? = some ops[t] := Array.getElem?_eq_getElem htl
    simp only [pick, List.filterMap_cons, h0, wpList] at h
    simp only [wpOps, h0]
    have ih := fun a w => wpOps_of_pick (Q' := Q') T a w (fun u hu => ht u (by simp [hu]))
    split
    · rename_i hw; rw [if_pos hw] at h; exact h.imp (Oper.wp_mono ih) id
    · rename_i hw; rw [if_neg hw] at h; exact ih _ _ h

theorem wpAnyH_lex {H : List Nat} {t0 : Nat} {T : List Nat} {Lq : Act → Prop} (hsel : Region.noSelect ops = true)
    (hcov : ∀ j, j < ops.size → j ∈ H ∨ j ∈ t0 :: T) (hdis : ∀ j ∈ H, j ∉ t0 :: T ∧ j < ops.size) (hTl : ∀ j ∈ t0 :: T, j < ops.size)
    (hs : sinkL md ops t0 H = true) (hc : chainL md ops t0 T = true) :
    ∀ (l : List Nat) (listed : Array Bool) (a : Act), (∀ i ∈ l, i ∈ H) → HInv md ops H listed →
    lexL md ops (t0 :: T) l listed = true → wpQuiet P ops C Lq (pick ops l) a →
    wpAnyH' P md ops C H (fun listed' a' => seqL md ops (t0 :: T) listed' = true ∧ Lq a') l.length listed a
  | [], listed, a, _, _, hB, h => ⟨by simpa [lexL] using hB, h⟩
  | k :: l, listed, a, hk, inv, hB, h => by
    have hkH := hk k (by simp)
    have hkl := (hdis k hkH).2
    have h0 : ops[k]? = some ops[k] := Array.getElem?_eq_getElem hkl
    simp only [lexL, Bool.and_eq_true] at hB
    obtain ⟨⟨hr, hf⟩, hB'⟩ := hB
    have hr' : k ∈ Region.ready md ops listed := by simpa using hr
    simp only [pick, List.filterMap_cons, h0] at h
    have hst : qOp P ops C k (wpQuiet P ops C Lq (pick ops l)) a := by unfold qOp; simp only [h0]; exact h
    obtain ⟨v, hy, hK⟩ := yieldsIn_of_qOp h0 hst
    exact wpAnyH_first h0 (Region.noSelect_spec hsel) hcov hdis hTl hs hc hkH (fun listed' a' hL => seqL_ready hL.1) l.length listed a inv (Region.free_spec h0 hf) hr' hy
      (wpAnyH_lex hsel hcov hdis hTl hs hc l _ _ (fun i hi => hk i (by simp [hi])) (inv.set hr' hkH) hB' hK)

/-- One walk of H in its order, then one walk of T. -/
theorem wp_region_qtail {id : Nat} {Q : Exit → Act → World → Prop} {a : Act} {w : World} {l : List Oper} (C : World → Prop) (H : List Nat) (t0 : Nat) (T : List Nat) (hm : P.follows .mixedOrders = true) (hB : tailB .any l.toArray H t0 T = true)
    (hC : C { w with drawn := w.drawn + 1 })
    (h : wpQuiet P l.toArray C (fun a' => ∀ w', C w' → wpList P l.toArray Q (pick l.toArray (t0 :: T)) a' w') (pick l.toArray H) a) : (Code.region id l.toArray true).wp P Q a w := by
  simp only [tailB, Bool.and_eq_true, decide_eq_true_eq] at hB
  obtain ⟨⟨⟨⟨⟨⟨⟨hsel, hcov⟩, hdis⟩, hTl⟩, hs⟩, hc⟩, hlen⟩, hlex⟩ := hB
  have hcov' : ∀ j, j < l.toArray.size → j ∈ H ∨ j ∈ t0 :: T := fun j hj => by
    have h1 := List.all_eq_true.1 hcov j (List.mem_range.2 hj)
    rw [Bool.or_eq_true] at h1
    rcases h1 with h1 | h1
    · exact .inl (by simpa using h1)
    · exact .inr (by simpa using h1)
  have hdis' : ∀ j ∈ H, j ∉ t0 :: T ∧ j < l.toArray.size := fun j hj => by
    have h1 := List.all_eq_true.1 hdis j hj
    rw [Bool.and_eq_true] at h1
    exact ⟨by simpa using h1.1, by simpa using h1.2⟩
  have hTl' : ∀ j ∈ t0 :: T, j < l.toArray.size := fun j hj => by
    have h1 := List.all_eq_true.1 hTl j hj
    simpa using h1
  have inv0 : HInv .any l.toArray H (Array.replicate l.toArray.size false) :=
    ⟨by simp, fun j oj _ hl => (by rw [getD_replicate_false] at hl; cases hl), fun t ht _ => getD_in (by simpa using ht) (getD_replicate_false _ _)⟩
  have Hh := wpAnyH_lex (md := .any) hsel hcov' hdis' hTl' hs hc H _ a (fun _ h => h) inv0 hlex h
  refine wp_region_any hm ?_
  have := wpAny_of_headH (Q' := Q) (g := (t0 :: T).length) (fun listed a' w' hw' hL => wpAny_of_seqL (md := .any) (Q' := Q) (t0 :: T) listed a' w' hL.1 (wpOps_of_pick _ _ _ hTl' (hL.2 w' hw'))) _ _ _ _ hC Hh
  rw [List.length_cons, hlen] at this
  exact this
end

/-- The class of the worlds that hold whatever lay before the region, new blocks apart. -/
theorem wp_region_btail {P : Program} {id : Nat} {Q : Exit → Act → World → Prop} {a : Act} {w : World} {l : List Oper} (H : List Nat) (t0 : Nat) (T : List Nat) (hm : P.follows .mixedOrders = true) (hB : tailB .any l.toArray H t0 T = true)
    (h : wpQuiet P l.toArray (fun w' => Go.RowKit.Below w.heap.size w w') (fun a' => ∀ w', Go.RowKit.Below w.heap.size w w' → wpList P l.toArray Q (pick l.toArray (t0 :: T)) a' w') (pick l.toArray H) a) : (Code.region id l.toArray true).wp P Q a w :=
  wp_region_qtail _ H t0 T hm hB ⟨rfl, rfl, rfl, Nat.le_refl _, fun _ _ => rfl⟩ h
/-- No tail. -/
theorem wp_region_bquiet {P : Program} {id : Nat} {Q : Exit → Act → World → Prop} {a : Act} {w : World} {l : List Oper} (hm : P.follows .mixedOrders = true) (hB : Region.lexB .any l.toArray = true)
    (h : wpQuiet P l.toArray (fun w' => Go.RowKit.Below w.heap.size w w') (fun a' => ∀ w', Go.RowKit.Below w.heap.size w w' → Q .normal a' w') l a) : (Code.region id l.toArray true).wp P Q a w :=
  wp_region_quiet (C := fun w' => Go.RowKit.Below w.heap.size w w') hm hB ⟨rfl, rfl, rfl, Nat.le_refl _, fun _ _ => rfl⟩ (by simpa using h)
end Go.Proofs.Ytnlkjhhocehhaaa
