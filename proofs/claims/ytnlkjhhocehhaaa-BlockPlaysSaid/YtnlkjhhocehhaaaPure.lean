/- A region that draws its order: operations that read no memory may come at any time: they are taken first; then reads in whatever order; then the others, one after the other. -/
import Derived.Test.YtnlkjhhocehhaaaGrow
namespace Go.Proofs.Ytnlkjhhocehhaaa
set_option linter.unusedVariables false
open Go Go.RowKit
section
variable {P : Program} {ops : Array Oper} {md : Region.Mode} {Q' : Exit → Act → World → Prop}
theorem wpAny_first {i : Nat} {oi : Oper} {v : Value} (hi : ops[i]? = some oi) (hsel : ∀ (j : Nat) (o : Oper) cs b, ops[j]? = some o → o.op ≠ .select cs b)
    (hQ : ∀ c a w, Q' (.panic c) (a.put oi.dst v) w → Q' (.panic c) a w) :
    ∀ (f : Nat) (listed : Array Bool) (a : Act) (w : World),
      (∀ j oj, ops[j]? = some oj → j ≠ i → listed.getD j true = false → (∀ e ∈ oj.after, Region.binds md e = true → e.on ≠ i) → oi.apart ops oj = true) →
      i ∈ Region.ready md ops listed → YieldsPure P ops (fun _ => True) oi v a →
      wpAny P md ops Q' f (listed.setIfInBounds i true) (a.put oi.dst v) w → wpAny P md ops Q' (f + 1) listed a w := by
  intro f
  induction f with
  | zero =>
    intro listed a w _ hr hy Hh
    refine ⟨fun h => (by rw [h] at hr; cases hr), fun j hj => ?_⟩
    by_cases hji : j = i
    · subst hji; exact hy.wpOp hi trivial Hh
    · have := ready_mono hj hji
      rw [Hh.1] at this
      cases this
  | succ f ih =>
    intro listed a w hfree hr hy Hh
    refine ⟨fun h => (by rw [h] at hr; cases hr), fun j hj => ?_⟩
    by_cases hji : j = i
    · subst hji; exact hy.wpOp hi trivial Hh
    · have h1 := Hh.2 j (ready_mono hj hji)
      obtain ⟨hjun, oj, hoj, hall⟩ := mem_ready.1 hj
      have hun := (mem_ready.1 hr).1
      have hnot : ∀ e ∈ oj.after, Region.binds md e = true → e.on ≠ i := fun e he hb heq => by
        have h1 := hall e he hb
        rw [heq, getD_both hun] at h1
        cases h1
      have h2 := wpOp_put' hoj (hfree j oj hoj hji hjun hnot) (fun cs b => hsel i oi cs b hi) (fun cs b => hsel j oj cs b hoj) hQ hy h1
      have hfree' : ∀ k ok, ops[k]? = some ok → k ≠ i → (listed.setIfInBounds j true).getD k true = false →
          (∀ e ∈ ok.after, Region.binds md e = true → e.on ≠ i) → oi.apart ops ok = true := fun k ok hk hki hun hno => by
        refine hfree k ok hk hki ?_ hno
        by_cases hjk : j = k
        · subst hjk; exact hjun
        · rw [getD_set_ne true hjk] at hun; exact hun
      refine wpOp_mono (fun a' w' h3 => ?_) h2
      rw [Array.setIfInBounds_comm _ _ (Ne.symm hji)] at h3
      exact ih (listed.setIfInBounds j true) a' w' hfree' (ready_mono hr (Ne.symm hji)) h3.1 h3.2
theorem wpAny_pure {g : Nat} {Lq : Act → Prop} {k : Array Bool → Bool} {w : World} (hsel : Region.noSelect ops = true) (hQ : ∀ c a d v w, Q' (.panic c) (Act.put a d v) w → Q' (.panic c) a w)
    (hL : ∀ listed a, listed.size = ops.size → Closed md ops listed → k listed = true → Lq a → wpAny P md ops Q' g listed a w) :
    ∀ (rs : List Nat) (listed : Array Bool) (a : Act), listed.size = ops.size → Closed md ops listed → lexS md ops k rs listed = true → wpQuiet P ops (fun _ => True) Lq (pick ops rs) a →
      wpAny P md ops Q' (rs.length + g) listed a w
  | [], listed, a, hsz, hcl, hB, h => by rw [List.length_nil, Nat.zero_add]; exact hL listed a hsz hcl hB h
  | r :: rs, listed, a, hsz, hcl, hB, h => by
    simp only [lexS, Bool.and_eq_true] at hB
    obtain ⟨⟨⟨hr, hf⟩, hn⟩, hB'⟩ := hB
    have hr' : r ∈ Region.ready md ops listed := by simpa using hr
    obtain ⟨hun, o, h0, _⟩ := mem_ready.1 hr'
    rw [h0] at hn
    simp only [pick, List.filterMap_cons, h0] at h
    have hst : qOp P ops (fun _ => True) r (wpQuiet P ops (fun _ => True) Lq (pick ops rs)) a := by unfold qOp; simp only [h0]; exact h
    obtain ⟨v, hy, hK⟩ := yieldsIn_of_qOp h0 hst
    rw [List.length_cons, show rs.length + 1 + g = (rs.length + g) + 1 by omega]
    exact wpAny_first h0 (Region.noSelect_spec hsel) (fun c a w => hQ c a _ v w) _ listed a w (Region.free_spec h0 hf) hr' (YieldsPure.of_quiet hn hy)
      (wpAny_pure hsel hQ hL rs _ _ (by simpa using hsz) (hcl.set hr') hB' hK)
theorem wpAnyH_lex' {H T : List Nat} {C : World → Prop} {Lq : Act → Prop} (hsel : Region.noSelect ops = true) (hTH : ∀ t ∈ T, t ∉ H)
    (key : ∀ i ∈ H, ∀ listed : Array Bool, listed.size = ops.size → Closed md ops listed → listed.getD i true = false → (∀ j, j < ops.size → listed.getD j true = false → j ∈ H ++ T) → ∀ j ∈ Region.ready md ops listed, j ∈ H) :
    ∀ (l : List Nat) (listed : Array Bool) (a : Act), (∀ i ∈ l, i ∈ H) → listed.size = ops.size → Closed md ops listed → (∀ j, j < ops.size → listed.getD j true = false → j ∈ H ++ T) →
    lexL md ops T l listed = true → wpQuiet P ops C Lq (pick ops l) a →
    wpAnyH' P md ops C H (fun listed' a' => seqL md ops T listed' = true ∧ Lq a') l.length listed a
  | [], listed, a, _, _, _, _, hB, h => ⟨by simpa [lexL] using hB, h⟩
  | k :: l, listed, a, hk, hsz, hcl, hcov, hB, h => by
    have hkH := hk k (by simp)
    simp only [lexL, Bool.and_eq_true] at hB
    obtain ⟨⟨hr, hf⟩, hB'⟩ := hB
    have hr' : k ∈ Region.ready md ops listed := by simpa using hr
    obtain ⟨hun, o, h0, _⟩ := mem_ready.1 hr'
    simp only [pick, List.filterMap_cons, h0] at h
    have hst : qOp P ops C k (wpQuiet P ops C Lq (pick ops l)) a := by unfold qOp; simp only [h0]; exact h
    obtain ⟨v, hy, hK⟩ := yieldsIn_of_qOp h0 hst
    have hcov' : ∀ j, j < ops.size → (listed.setIfInBounds k true).getD j true = false → j ∈ H ++ T := fun j hj hl => by
      by_cases hkj : k = j
      · subst hkj
        exact List.mem_append_left _ hkH
      · rw [getD_set_ne true hkj] at hl; exact hcov j hj hl
    -- a wider statement: the cover is kept along the way
    have aux : ∀ (f : Nat) (lst : Array Bool) (b : Act), lst.size = ops.size → Closed md ops lst → (∀ j, j < ops.size → lst.getD j true = false → j ∈ H ++ T) →
        (∀ j oj, ops[j]? = some oj → j ≠ k → lst.getD j true = false → (∀ e ∈ oj.after, Region.binds md e = true → e.on ≠ k) → o.apart ops oj = true) →
        k ∈ Region.ready md ops lst → YieldsIn P ops C o v b →
        wpAnyH' P md ops C H (fun listed' a' => seqL md ops T listed' = true ∧ Lq a') f (lst.setIfInBounds k true) (b.put o.dst v) →
        wpAnyH' P md ops C H (fun listed' a' => seqL md ops T listed' = true ∧ Lq a') (f + 1) lst b := by
      intro f
      induction f with
      | zero =>
        intro lst b hsz hcl hcov _ hr hy Hh
        have hun := (mem_ready.1 hr).1
        refine ⟨fun h => (by rw [h] at hr; cases hr), fun j hj => ?_⟩
        have hjH := key k hkH lst hsz hcl hun hcov j hj
        refine ⟨hjH, ?_⟩
        by_cases hji : j = k
        · subst hji; exact hy.qOp h0 Hh
        · exact absurd hjH (hTH j (seqL_ready Hh.1 j (ready_mono hj hji)))
      | succ f ih =>
        intro lst b hsz hcl hcov hfree hr hy Hh
        have hun := (mem_ready.1 hr).1
        refine ⟨fun h => (by rw [h] at hr; cases hr), fun j hj => ?_⟩
        have hjH := key k hkH lst hsz hcl hun hcov j hj
        refine ⟨hjH, ?_⟩
        by_cases hji : j = k
        · subst hji; exact hy.qOp h0 Hh
        · have h1 := (Hh.2 j (ready_mono hj hji)).2
          obtain ⟨hjun, oj, hoj, hall⟩ := mem_ready.1 hj
          have hnot : ∀ e ∈ oj.after, Region.binds md e = true → e.on ≠ k := fun e he hb heq => by
            have h1 := hall e he hb
            rw [heq, getD_both hun] at h1
            cases h1
          have h2 := qOp_put hoj (hfree j oj hoj hji hjun hnot) (fun cs b => Region.noSelect_spec hsel k o cs b h0) (fun cs b => Region.noSelect_spec hsel j oj cs b hoj) hy h1
          have hfree' : ∀ m om, ops[m]? = some om → m ≠ k → (lst.setIfInBounds j true).getD m true = false →
              (∀ e ∈ om.after, Region.binds md e = true → e.on ≠ k) → o.apart ops om = true := fun m om hm hmk hun hno => by
            refine hfree m om hm hmk ?_ hno
            by_cases hjm : j = m
            · subst hjm; exact hjun
            · rw [getD_set_ne true hjm] at hun; exact hun
          refine qOp_mono (fun a' h3 => ih (lst.setIfInBounds j true) a' (by simpa using hsz) (hcl.set hj) (fun m hm hl => ?_) hfree' (ready_mono hr (Ne.symm hji)) h3.1 ?_) h2
          · by_cases hjm : j = m
            · subst hjm; exact List.mem_append_left _ hjH
            · rw [getD_set_ne true hjm] at hl; exact hcov m hm hl
          · rw [Array.setIfInBounds_comm _ _ hji]
            exact h3.2
    exact aux l.length listed a hsz hcl hcov (Region.free_spec h0 hf) hr' hy
      (wpAnyH_lex' hsel hTH key l _ _ (fun i hi => hk i (by simp [hi])) (by simpa using hsz) (hcl.set hr') hcov' hB' hK)
def pureB (md : Region.Mode) (ops : Array Oper) (U H : List Nat) (t0 : Nat) (T : List Nat) : Bool :=
  Region.noSelect ops && (List.range ops.size).all (fun i => U.contains i || H.contains i || (t0 :: T).contains i) && H.all (fun i => !(t0 :: T).contains i && decide (i < ops.size)) &&
  (t0 :: T).all (fun i => decide (i < ops.size)) && sinkL md ops t0 H && chainL md ops t0 T && decide (U.length + (H.length + (T.length + 1)) = ops.size) &&
  lexS md ops (fun l => (List.range ops.size).all (fun i => l.getD i true || H.contains i || (t0 :: T).contains i) && (H ++ (t0 :: T)).all (fun i => !(l.getD i true)) && lexL md ops (t0 :: T) H l) U (Array.replicate ops.size false)
/-- U: operations that look at no memory; H: reads; then t0 and T, one after the other. -/
theorem wp_region_pure {id : Nat} {Q : Exit → Act → World → Prop} {a : Act} {w : World} {l : List Oper} (U H : List Nat) (t0 : Nat) (T : List Nat) (hm : P.follows .mixedOrders = true) (hB : pureB .any l.toArray U H t0 T = true)
    (h : wpQuiet P l.toArray (fun W => ∃ q : World, W = q) (fun a => wpQuiet P l.toArray (fun W => ∃ q : Kept nob w, W = q.x) (fun a' => ∀ w', Below w.heap.size w w' → wpList P l.toArray (NoPan Q) (pick l.toArray (t0 :: T)) a' w') (pick l.toArray H) a) (pick l.toArray U) a) : (Code.region id l.toArray true).wp P Q a w := by
  refine Code.wp_mono (Q := NoPan Q) NoPan.to ?_
  rw [show (fun W => ∃ q : World, W = q) = (fun _ : World => True) from funext fun W => propext ⟨fun _ => trivial, fun _ => ⟨W, rfl⟩⟩] at h
  simp only [pureB, Bool.and_eq_true, decide_eq_true_eq] at hB
  obtain ⟨⟨⟨⟨⟨⟨⟨hsel, hcov⟩, hdis⟩, hTl⟩, hs⟩, hc⟩, hlen⟩, hlex⟩ := hB
  have hdis' : ∀ j ∈ H, j ∉ t0 :: T ∧ j < l.toArray.size := fun j hj => by
    have h1 := List.all_eq_true.1 hdis j hj
    rw [Bool.and_eq_true] at h1
    exact ⟨by simpa using h1.1, by simpa using h1.2⟩
  have hTl' : ∀ j ∈ t0 :: T, j < l.toArray.size := fun j hj => by
    have h1 := List.all_eq_true.1 hTl j hj
    simpa using h1
  have hTH : ∀ t ∈ t0 :: T, t ∉ H := fun u hu hu' => (hdis' u hu').1 hu
  refine wp_region_any hm ?_
  have main := wpAny_pure (P := P) (Q' := NoPan Q) (md := .any) (g := H.length + (t0 :: T).length) (w := w.drew) hsel (fun _ _ _ _ _ h => h)
    (k := fun l' => (List.range l.toArray.size).all (fun i => l'.getD i true || H.contains i || (t0 :: T).contains i) && (H ++ (t0 :: T)).all (fun i => !(l'.getD i true)) && lexL .any l.toArray (t0 :: T) H l')
    (Lq := fun a => wpQuiet P l.toArray (fun W => ∃ q : Kept nob w, W = q.x) (fun a' => ∀ w', Below w.heap.size w w' → wpList P l.toArray (NoPan Q) (pick l.toArray (t0 :: T)) a' w') (pick l.toArray H) a)
    (fun listed a' hsz hcl hk hq => ?_) U (Array.replicate l.toArray.size false) a (by simp) (fun j oj _ hl => (by rw [getD_replicate_false] at hl; cases hl)) hlex h
  · rw [show U.length + (H.length + (t0 :: T).length) = l.toArray.size from hlen] at main
    exact main
  · simp only [Bool.and_eq_true] at hk
    obtain ⟨⟨hk1, hk2⟩, hk3⟩ := hk
    have hcv : ∀ j, j < l.toArray.size → listed.getD j true = false → j ∈ H ++ (t0 :: T) := fun j hj hl => by
      have h1 := List.all_eq_true.1 hk1 j (List.mem_range.2 hj)
      rw [Bool.or_eq_true, Bool.or_eq_true, hl] at h1
      rcases h1 with (h1 | h1) | h1
      · cases h1
      · exact List.mem_append_left _ (by simpa using h1)
      · exact List.mem_append_right _ (by simpa using h1)
    have hfree0 : ∀ j ∈ t0 :: T, listed.getD j true = false := fun j hj => by
      have h1 := List.all_eq_true.1 hk2 j (List.mem_append_right _ hj)
      simpa using h1
    -- the reads come up ahead of the rest
    have key : ∀ i ∈ H, ∀ lst : Array Bool, lst.size = l.toArray.size → Closed .any l.toArray lst → lst.getD i true = false → (∀ j, j < l.toArray.size → lst.getD j true = false → j ∈ H ++ (t0 :: T)) → ∀ j ∈ Region.ready .any l.toArray lst, j ∈ H := by
      intro i hi lst hsz hcl hun hcov j hj
      obtain ⟨hju, o, ho, _⟩ := mem_ready.1 hj
      have hjl : j < l.toArray.size := (Array.getElem?_eq_some_iff.1 ho).1
      rcases List.mem_append.1 (hcov j hjl hju) with h | h
      · exact h
      · exfalso
        have h0 : t0 ∉ Region.ready .any l.toArray lst := sink_key hs (fun i hi => (hdis' i hi).2) hsz hcl hi hun
        have hunl : ∀ (T : List Nat) (t : Nat), chainL .any l.toArray t T = true → t ∉ Region.ready .any l.toArray lst → lst.getD t true = false → (∀ u ∈ t :: T, u < l.toArray.size) → ∀ u ∈ T, u ∉ Region.ready .any l.toArray lst := by
          intro T
          induction T with
          | nil => intro _ _ _ _ _ u hu; cases hu
          | cons k rest ih =>
            intro t hc ht htu hlt u hu
            simp only [chainL, Bool.and_eq_true] at hc
            obtain ⟨h1, h2⟩ := hc
            have hkr : k ∉ Region.ready .any l.toArray lst := by
              intro hr
              obtain ⟨ok, hok, e, he, hb, hon⟩ := Region.waitsFor_spec h1
              obtain ⟨_, ok', hok', hall⟩ := mem_ready.1 hr
              have : ok' = ok := Option.some.inj (hok'.symm.trans hok)
              subst this
              have h3 := hall e he hb
              rw [hon, getD_both htu] at h3
              cases h3
            rcases List.mem_cons.1 hu with rfl | hu
            · exact hkr
            · by_cases hku : lst.getD k true = false
              · exact ih k h2 hkr hku (fun u hu => hlt u (by simp [List.mem_cons.1 hu |>.elim (fun h => Or.inl h) (fun h => Or.inr h)])) u hu
              · exfalso
                have hkl : k < l.toArray.size := hlt k (by simp)
                obtain ⟨ok, hok, e, he, hb, hon⟩ := Region.waitsFor_spec h1
                have hkt : lst.getD k false = true := by
                  cases hq : lst.getD k false with
                  | true => rfl
                  | false => exact absurd (getD_in (by rw [hsz]; exact hkl) hq) hku
                have h3 := hcl k ok hok hkt e he hb
                rw [hon, getD_both htu] at h3
                cases h3
        have ht0u : lst.getD t0 true = false := by
          by_cases hq : lst.getD t0 true = false
          · exact hq
          · exfalso
            have ht0l := hTl' t0 (by simp)
            have ht : lst.getD t0 false = true := by
              cases hq' : lst.getD t0 false with
              | true => rfl
              | false => exact absurd (getD_in (by rw [hsz]; exact ht0l) hq') hq
            -- t0 is listed: so all of H are
            have aux : ∀ (L : List Nat), sinkL .any l.toArray t0 L = true → (∀ k ∈ L, k < l.toArray.size) → ∀ k ∈ L, lst.getD k false = true := by
              intro L
              induction L with
              | nil => intro _ _ k hk; cases hk
              | cons m rest ih =>
                intro hs hlt k hk
                simp only [sinkL, Bool.and_eq_true] at hs
                obtain ⟨h1, h2⟩ := hs
                have ihr := ih h2 (fun k hk => hlt k (by simp [hk]))
                rcases List.mem_cons.1 hk with rfl | hk
                · obtain ⟨j, hj, hw⟩ := List.any_eq_true.1 h1
                  obtain ⟨oj, hoj, e, he, hb, hon⟩ := Region.waitsFor_spec hw
                  have hjl : lst.getD j false = true := by
                    rw [List.mem_append, List.mem_singleton] at hj
                    rcases hj with hj | rfl
                    · exact ihr j hj
                    · exact ht
                  have := hcl j oj hoj hjl e he hb
                  rw [hon] at this; exact this
                · exact ihr k hk
            have := aux H hs (fun k hk => (hdis' k hk).2) i hi
            rw [getD_both hun] at this
            cases this
        rcases List.mem_cons.1 h with rfl | h
        · exact h0 hj
        · exact hunl T t0 hc h0 ht0u hTl' j h hj
    have Hh := wpAnyH_lex' (P := P) (md := .any) (H := H) (T := t0 :: T) (C := fun W => ∃ q : Kept nob w, W = q.x) hsel hTH key H listed a' (fun _ h => h) hsz hcl hcv hk3 hq
    have := wpAny_of_headH (Q' := NoPan Q) (g := (t0 :: T).length) (fun listed a' w' hw' hL => wpAny_of_seqL (md := .any) (Q' := NoPan Q) (t0 :: T) listed a' w' hL.1 (wpOps_of_pick _ _ _ hTl' (hL.2 w' (by
      obtain ⟨q, rfl⟩ := hw'; exact q.fr.below_nob)))) H.length listed a' w.drew ⟨⟨_, (Fr.refl nob w).drew⟩, rfl⟩ Hh
    exact this
end
end Go.Proofs.Ytnlkjhhocehhaaa
