/- A region that draws its order: reads that may come up late, behind operations that leave what they read as it was. -/
import Derived.Test.YtnlkjhhocehhaaaMem
namespace Go.Proofs.Ytnlkjhhocehhaaa
set_option linter.unusedVariables false
open Go Go.RowKit
variable {P : Program}
def noEnterB (o : Oper) : Bool := match o.op with
  | .move _ | .assign _ | .load _ _ | .binOp .. | .unOp .. | .convert .. | .fieldAddr .. | .field .. | .indexAddr .. | .index .. | .slice .. | .extract .. | .pick .. => true
  | .nilCheck _ => true
  | .call c => (match c.callee with | .builtin .len => true | .builtin .min => true | .builtin .max => true | _ => false)
  | _ => false
theorem then_value {s : Sem Value} {w w' : World} {f : FuncId} {args : Array Value} : ((do let r ← s; pure (Next.value r)) : Sem Next).run P w ≠ .ok (.enter f args) w' := by
  rw [Sem.run_bind]
  cases s.run P w <;> simp [Result.andThen]
theorem no_enter (o : Oper) (h : noEnterB o = true) (ρ : Operand → Value) (w w' : World) (f : FuncId) (args : Array Value) : (execOp ρ o).run P w ≠ .ok (.enter f args) w' := by
  unfold noEnterB at h
  unfold execOp
  cases hop : o.op <;> simp only [hop] at h ⊢ <;> first | exact then_value | (cases h; done) | skip
  case move => simp
  case pick c x y =>
    rw [Sem.run_bind]
    cases Sem.run P (asBool (ρ c)) w <;> simp [Result.andThen]
  case assign => simp
  case nilCheck x =>
    split
    · simp [runtimePanic]
    · simp [runtimePanic]
    · simp [runtimePanic]
    · split
      · simp [runtimePanic]
      · simp only [Sem.run_bind]
        cases hp : Sem.run P program w with
        | halt x w1 => simp [Result.andThen]
        | ok p w1 =>
          simp only [Result.andThen]
          cases hq : Sem.run P (nilAhead (p.types.size + Made.depth) _ _ _) w1 with
          | halt x w2 => simp
          | ok r w2 =>
            simp only
            split
            · simp [unsupported, Sem.run_bind, Result.andThen]
            · simp
      · simp
    · simp
  case call c =>
    cases hc : c.callee with
    | builtin b =>
      cases b <;> simp [hc] at h <;> (unfold resolve; simp only [hc]; rw [Sem.run_bind]; simp only [Sem.run_pure, Result.andThen_ok]; exact then_value)
    | _ => simp [hc] at h

section
variable {ops : Array Oper} {md : Region.Mode} {C : World → Prop} {Q' : Exit → Act → World → Prop}

/-- In every world of the class the operation leaves v in its temporary, and the very world. -/
def YieldsPure (P : Program) (ops : Array Oper) (C : World → Prop) (o : Oper) (v : Value) (a : Act) : Prop :=
  (Region.wanted o (yielded ops a.tmps) = true ∧ ∀ w, C w → ((execOp a.eval o).run P w = .ok (.value v) w ∨ ((execOp a.eval o).run P w = .ok .skip w ∧ v = undef))) ∨
  (Region.wanted o (yielded ops a.tmps) = false ∧ v = undef)
theorem YieldsPure.of_same {o : Oper} {v : Value} {a a' : Act} (hy : YieldsPure P ops C o v a) (he : execOp a'.eval o = execOp a.eval o)
    (hw : Region.wanted o (yielded ops a'.tmps) = Region.wanted o (yielded ops a.tmps)) : YieldsPure P ops C o v a' := by
  unfold YieldsPure at *
  rw [he, hw]
  exact hy
theorem YieldsPure.of_quiet {o : Oper} {v : Value} {a : Act} (hn : noEnterB o = true) (hy : YieldsIn P ops C o v a) : YieldsPure P ops C o v a := by
  rcases hy with ⟨hw, hq⟩ | h
  · refine .inl ⟨hw, fun w hC => ?_⟩
    have h1 := hq w hC
    unfold Oper.quietAt at h1
    have h2 := no_enter (P := P) o hn a.eval w
    generalize (execOp a.eval o).run P w = r at *
    cases r with
    | ok n w' =>
      cases n <;> simp only [Oper.quietUpon] at h1
      case value u => obtain ⟨rfl, rfl⟩ := h1; exact .inl rfl
      case skip => obtain ⟨rfl, rfl⟩ := h1; exact .inr ⟨rfl, rfl⟩
      case enter f args => exact absurd rfl (h2 w' f args)
    | halt x w' => simp only [Oper.quietUpon] at h1
  · exact .inr h
theorem YieldsPure.wpOp {i : Nat} {o : Oper} {v : Value} {a : Act} {w : World} (hi : ops[i]? = some o) (hy : YieldsPure P ops C o v a) (hC : C w)
    {K : Act → World → Prop} (h : K (a.put o.dst v) w) : wpOp P ops Q' i K a w := by
  unfold Go.wpOp
  simp only [hi]
  rcases hy with ⟨hw, hv⟩ | ⟨hw, rfl⟩
  · rcases hv w hC with hv2 | ⟨hv2, rfl⟩
    · simp only [hw, if_true, Oper.wp, hv2, Oper.upon]; exact .inl h
    · simp only [hw, if_true, Oper.wp, hv2, Oper.upon]; exact .inl h
  · simp only [hw, Bool.false_eq_true, if_false]; exact h
theorem wpOp_put' {j : Nat} {oi oj : Oper} {v : Value} (hj : ops[j]? = some oj) (hap : oi.apart ops oj = true)
    (hsi : ∀ cs b, oi.op ≠ .select cs b) (hsj : ∀ cs b, oj.op ≠ .select cs b)
    (hQ : ∀ c a w, Q' (.panic c) (a.put oi.dst v) w → Q' (.panic c) a w) {K : Act → World → Prop} {a : Act} {w : World}
    (hy : YieldsPure P ops C oi v a) (h : wpOp P ops Q' j K (a.put oi.dst v) w) :
    wpOp P ops Q' j (fun a' w' => YieldsPure P ops C oi v a' ∧ K (a'.put oi.dst v) w') a w := by
  obtain ⟨h1, h2, h3⟩ := Oper.apart_spec hap
  have keep : ∀ (a : Act), YieldsPure P ops C oi v a → ∀ u, YieldsPure P ops C oi v (a.put oj.dst u) := fun a hy u =>
    hy.of_same (execOp_put oi hsi a oj.dst u h3) (wanted_put oi a oj.dst u h3)
  have keepD : ∀ d, YieldsPure P ops C oi v { a with defers := d :: a.defers } := fun d => hy.of_same rfl rfl
  unfold wpOp at *
  simp only [hj] at *
  rw [wanted_put oj a oi.dst v h1] at h
  split
  · rename_i hw
    simp only [hw, if_true] at h
    rcases h with h | ⟨hasks, hlets⟩
    case inr => exact .inr ⟨by unfold Oper.asks at *; rw [execOp_put oj hsj a oi.dst v h1] at hasks; exact hasks, hlets⟩
    refine .inl ?_
    unfold Oper.wp at *
    rw [execOp_put oj hsj a oi.dst v h1] at h
    generalize (execOp a.eval oj).run P w = r at *
    cases r with
    | ok n w' =>
      cases n <;> simp only [Oper.upon] at h ⊢
      case value u => exact ⟨keep a hy u, by rw [← Act.put_comm a v u h2]; exact h⟩
      case skip => exact ⟨keep a hy _, by rw [← Act.put_comm a v undef h2]; exact h⟩
      case defer d =>
        refine ⟨keep _ (keepD d) _, ?_⟩
        rw [← Act.put_comm _ v undef h2, ← Act.put_defers]
        exact h
      case enter f args =>
        refine Calls.mono h fun e w'' he => ?_
        cases e with
        | returned u => exact ⟨keep a hy u, by rw [← Act.put_comm a v u h2]; exact he⟩
        | panicked c => exact hQ _ _ _ he
        | outgrown => exact he
      case row row args => exact Rows.mono h fun u w'' he => ⟨keep a hy u, by rw [← Act.put_comm a v u h2]; exact he⟩
    | halt x w' =>
      cases x <;> simp only [Oper.upon] at h ⊢
      case panic u => exact hQ _ _ _ h
  · rename_i hw
    simp only [hw] at h
    exact ⟨keep a hy _, by rw [← Act.put_comm a v undef h2]; exact h⟩

/-- Whatever order is picked from here on, the class being kept until t2 has come up. -/
def wpAnyC (P : Program) (md : Region.Mode) (ops : Array Oper) (C : World → Prop) (t2 : Nat) (Q : Exit → Act → World → Prop) : Nat → Array Bool → Act → World → Prop
  | 0, listed, a, w => (listed.getD t2 true = false → C w) ∧ Region.ready md ops listed = [] ∧ Q .normal a w
  | fuel + 1, listed, a, w => (listed.getD t2 true = false → C w) ∧ (Region.ready md ops listed = [] → Q .normal a w) ∧
      ∀ i ∈ Region.ready md ops listed, wpOp P ops Q i (wpAnyC P md ops C t2 Q fuel (listed.setIfInBounds i true)) a w
theorem wpAnyC.cls {t2 : Nat} {f : Nat} {listed : Array Bool} {a : Act} {w : World} (h : wpAnyC P md ops C t2 Q' f listed a w) (ht : listed.getD t2 true = false) : C w := by
  cases f <;> exact h.1 ht
theorem wpAny_of_C {t2 : Nat} : ∀ (f : Nat) (listed : Array Bool) (a : Act) (w : World), wpAnyC P md ops C t2 Q' f listed a w → wpAny P md ops Q' f listed a w
  | 0, _, _, _, h => h.2
  | f + 1, _, _, _, h => ⟨h.2.1, fun i hi => wpOp_mono (fun a' w' => wpAny_of_C f _ a' w') (h.2.2 i hi)⟩

theorem wpAnyC_first {H : List Nat} {t2 i : Nat} {oi : Oper} {v : Value} (hi : ops[i]? = some oi) (hsel : ∀ (j : Nat) (o : Oper) cs b, ops[j]? = some o → o.op ≠ .select cs b)
    (hQ : ∀ c a w, Q' (.panic c) (a.put oi.dst v) w → Q' (.panic c) a w) (hs : sinkL md ops t2 H = true) (hin : i ∈ H) (hH : ∀ j ∈ H, j < ops.size) (ht2H : t2 ∉ H) :
    ∀ (f : Nat) (listed : Array Bool) (a : Act) (w : World), listed.size = ops.size → (∀ j oj, ops[j]? = some oj → listed.getD j false = true → ∀ e ∈ oj.after, Region.binds md e = true → listed.getD e.on false = true) →
      listed.getD t2 true = false →
      (∀ j oj, ops[j]? = some oj → j ≠ i → listed.getD j true = false → (∀ e ∈ oj.after, Region.binds md e = true → e.on ≠ i) → oi.apart ops oj = true) →
      i ∈ Region.ready md ops listed → C w → YieldsPure P ops C oi v a →
      wpAnyC P md ops C t2 Q' f (listed.setIfInBounds i true) (a.put oi.dst v) w → wpAnyC P md ops C t2 Q' (f + 1) listed a w := by
  have hne2 : i ≠ t2 := fun e => ht2H (e ▸ hin)
  have key : ∀ listed : Array Bool, listed.size = ops.size → (∀ j oj, ops[j]? = some oj → listed.getD j false = true → ∀ e ∈ oj.after, Region.binds md e = true → listed.getD e.on false = true) → listed.getD i true = false → t2 ∉ Region.ready md ops listed := by
    intro listed hsz hcl hun
    suffices aux : ∀ (L : List Nat), sinkL md ops t2 L = true → (∀ i ∈ L, i < ops.size) → (∃ i ∈ L, listed.getD i true = false) → t2 ∉ Region.ready md ops listed from aux H hs hH ⟨i, hin, hun⟩
    intro L
    induction L with
    | nil => intro _ _ h; obtain ⟨i, hi, _⟩ := h; cases hi
    | cons k rest ih =>
      intro hs hlt h
      simp only [sinkL, Bool.and_eq_true] at hs
      obtain ⟨h1, h2⟩ := hs
      by_cases hk : listed.getD k true = false
      · intro hr
        obtain ⟨j, hj, hw⟩ := List.any_eq_true.1 h1
        obtain ⟨oj, hoj, e, he, hb, hon⟩ := Region.waitsFor_spec hw
        rw [List.mem_append, List.mem_singleton] at hj
        rcases hj with hj | rfl
        · cases hl : listed.getD j false with
          | true =>
            have h3 := hcl j oj hoj hl e he hb
            rw [hon, getD_both hk] at h3
            cases h3
          | false =>
            have hjs : j < listed.size := by rw [hsz]; exact hlt j (List.mem_cons_of_mem _ hj)
            exact ih h2 (fun i hi => hlt i (List.mem_cons_of_mem _ hi)) ⟨j, hj, getD_in hjs hl⟩ hr
        · obtain ⟨_, ot, hot, hall⟩ := mem_ready.1 hr
          have : ot = oj := Option.some.inj (hot.symm.trans hoj)
          subst this
          have h3 := hall e he hb
          rw [hon, getD_both hk] at h3
          cases h3
      · obtain ⟨i, hi, hun⟩ := h
        rcases List.mem_cons.1 hi with rfl | hi
        · exact absurd hun hk
        · exact ih h2 (fun i hi => hlt i (List.mem_cons_of_mem _ hi)) ⟨i, hi, hun⟩
  intro f
  induction f with
  | zero =>
    intro listed a w hsz hcl ht2 _ hr hC hy Hh
    refine ⟨fun _ => hC, fun h => (by rw [h] at hr; cases hr), fun j hj => ?_⟩
    by_cases hji : j = i
    · subst hji; exact hy.wpOp hi hC Hh
    · have := ready_mono hj hji
      rw [Hh.2.1] at this
      cases this
  | succ f ih =>
    intro listed a w hsz hcl ht2 hfree hr hC hy Hh
    refine ⟨fun _ => hC, fun h => (by rw [h] at hr; cases hr), fun j hj => ?_⟩
    by_cases hji : j = i
    · subst hji; exact hy.wpOp hi hC Hh
    · have h1 := Hh.2.2 j (ready_mono hj hji)
      obtain ⟨hjun, oj, hoj, hall⟩ := mem_ready.1 hj
      have hun := (mem_ready.1 hr).1
      have hjt : j ≠ t2 := fun e => key listed hsz hcl hun (e ▸ hj)
      have hnot : ∀ e ∈ oj.after, Region.binds md e = true → e.on ≠ i := fun e he hb heq => by
        have h1 := hall e he hb
        rw [heq, getD_both hun] at h1
        cases h1
      have h2 := wpOp_put' hoj (hfree j oj hoj hji hjun hnot) (fun cs b => hsel i oi cs b hi) (fun cs b => hsel j oj cs b hoj) hQ hy h1
      have hfree' : ∀ k ok, ops[k]? = some ok → k ≠ i → (listed.setIfInBounds j true).getD k true = false →
          (∀ e ∈ ok.after, Region.binds md e = true → e.on ≠ i) → oi.apart ops ok = true := fun k ok hk hki hun hno => by
        refine hfree k ok hk hki ?_ hno
        by_cases hjk : j = k
        · subst hjk; exact hjun
        · rw [getD_set_ne true hjk] at hun; exact hun
      have hcl' : ∀ k ok, ops[k]? = some ok → (listed.setIfInBounds j true).getD k false = true → ∀ e ∈ ok.after, Region.binds md e = true → (listed.setIfInBounds j true).getD e.on false = true := fun k ok hk hl e he hb => by
        by_cases hjk : j = k
        · subst hjk
          have : ok = oj := Option.some.inj (hk.symm.trans hoj)
          subst this
          exact getD_set_true (hall e he hb)
        · rw [getD_set_ne false hjk] at hl
          exact getD_set_true (hcl k ok hk hl e he hb)
      have ht2' : (listed.setIfInBounds j true).getD t2 true = false := by rw [getD_set_ne true hjt]; exact ht2
      refine wpOp_mono (fun a' w' h3 => ?_) h2
      rw [Array.setIfInBounds_comm _ _ (Ne.symm hji)] at h3
      refine ih (listed.setIfInBounds j true) a' w' (by simpa using hsz) hcl' ht2' hfree' (ready_mono hr (Ne.symm hji)) (h3.2.cls ?_) h3.1 h3.2
      rw [getD_set_ne true hne2]; exact ht2'

def mixB (md : Region.Mode) (ops : Array Oper) (H T1 : List Nat) (t2 : Nat) (T2 : List Nat) : Bool :=
  Region.noSelect ops && H.all (fun i => match ops[i]? with | some o => noEnterB o | none => false) &&
  (H ++ T1).all (fun i => decide (i < ops.size) && i != t2) && decide (t2 < ops.size) && T2.all (fun i => decide (i < ops.size)) &&
  sinkL md ops t2 (H ++ T1) && decide (H.length + (T1.length + (T2.length + 1)) = ops.size) && lexL md ops (T1 ++ t2 :: T2) H (Array.replicate ops.size false)

/-- The operations of T1, the class being shown behind each; then R. -/
def wpKeep (P : Program) (ops : Array Oper) (C : World → Prop) (Q : Exit → Act → World → Prop) (R : Act → World → Prop) : List Oper → Act → World → Prop
  | [], a, w => R a w
  | o :: rest, a, w => if Region.wanted o (yielded ops a.tmps) then o.wp P a w (fun a' w' => C w' ∧ wpKeep P ops C Q R rest a' w') Q else C w ∧ wpKeep P ops C Q R rest (a.put o.dst undef) w

theorem wpAnyC_of_ops {t2 : Nat} (C : World → Prop) : ∀ (T : List Nat) (listed : Array Bool) (a : Act) (w : World), listed.getD t2 true ≠ false →
    seqL md ops T listed = true → wpOps P ops Q' T a w → wpAnyC P md ops C t2 Q' T.length listed a w
  | [], listed, a, w, ht, hB, h => ⟨fun h' => absurd h' ht, by simpa [seqL] using hB, h⟩
  | t :: T, listed, a, w, ht, hB, h => by
    simp only [seqL, Bool.and_eq_true, decide_eq_true_eq] at hB
    refine ⟨fun h' => absurd h' ht, fun h1 => (by rw [hB.1] at h1; cases h1), fun i hi => ?_⟩
    rw [hB.1] at hi
    have hik : i = t := by simpa using hi
    subst hik
    rw [wpOps_cons] at h
    refine wpOp_mono (fun a' w' h' => wpAnyC_of_ops C T _ a' w' ?_ hB.2 h') h
    intro h'
    by_cases e : i = t2
    · subst e
      have hr : i ∈ Region.ready md ops listed := by rw [hB.1]; simp
      exact ht (mem_ready.1 hr).1
    · rw [getD_set_ne true e] at h'; exact ht h'

theorem wpAnyC_of_keep {t2 : Nat} {T2 : List Nat} (ht2 : t2 < ops.size) : ∀ (T1 : List Nat) (listed : Array Bool) (a : Act) (w : World), (∀ i ∈ T1, i < ops.size ∧ i ≠ t2) → listed.size = ops.size → C w →
    seqL md ops (T1 ++ t2 :: T2) listed = true → wpKeep P ops C Q' (fun a' w' => wpOps P ops Q' (t2 :: T2) a' w') (pick ops T1) a w → wpAnyC P md ops C t2 Q' (T1.length + (T2.length + 1)) listed a w
  | [], listed, a, w, _, hsz, hC, hB, h => by
    simp only [List.nil_append, seqL, Bool.and_eq_true, decide_eq_true_eq] at hB
    rw [List.length_nil, Nat.zero_add]
    refine ⟨fun _ => hC, fun h1 => (by rw [hB.1] at h1; cases h1), fun i hi => ?_⟩
    rw [hB.1] at hi
    have hik : i = t2 := by simpa using hi
    subst hik
    have h' : wpOps P ops Q' (i :: T2) a w := h
    rw [wpOps_cons] at h'
    refine wpOp_mono (fun a' w' h' => wpAnyC_of_ops C T2 _ a' w' ?_ hB.2 h') h'
    simp [hsz, ht2]
  | t :: T1, listed, a, w, hT, hsz, hC, hB, h => by
    simp only [List.cons_append, seqL, Bool.and_eq_true, decide_eq_true_eq] at hB
    rw [List.length_cons, show T1.length + 1 + (T2.length + 1) = (T1.length + (T2.length + 1)) + 1 by omega]
    refine ⟨fun _ => hC, fun h1 => (by rw [hB.1] at h1; cases h1), fun i hi => ?_⟩
    rw [hB.1] at hi
    have hik : i = t := by simpa using hi
    subst hik
    have hil := (hT i (by simp)).1
    have h0 : ops[i]? = some ops[i] := Array.getElem?_eq_getElem hil
    simp only [pick, List.filterMap_cons, h0, wpKeep] at h
    have ih := fun a' w' (hC' : C w') h' => wpAnyC_of_keep ht2 T1 (listed.setIfInBounds i true) a' w' (fun k hk => hT k (by simp [hk])) (by simpa using hsz) hC' hB.2 h'
    unfold wpOp
    simp only [h0]
    split
    · rename_i hw; rw [if_pos hw] at h; exact .inl (Oper.wp_mono (fun a' w' h' => ih a' w' h'.1 h'.2) h)
    · rename_i hw; rw [if_neg hw] at h; exact ih _ _ h.1 h.2

theorem wpAnyC_lex {H T1 : List Nat} {t2 : Nat} {T2 : List Nat} {Lq : Act → Prop} (w : World) (hC : C w) (hsel : Region.noSelect ops = true) (hQ : ∀ c a d v w, Q' (.panic c) (Act.put a d v) w → Q' (.panic c) a w)
    (hno : ∀ i ∈ H, ∀ o, ops[i]? = some o → noEnterB o = true) (hHT : ∀ i ∈ H ++ T1, i < ops.size ∧ i ≠ t2) (ht2 : t2 < ops.size) (hs : sinkL md ops t2 (H ++ T1) = true)
    (hL : ∀ listed a, listed.size = ops.size → seqL md ops (T1 ++ t2 :: T2) listed = true → Lq a → wpAnyC P md ops C t2 Q' (T1.length + (T2.length + 1)) listed a w) :
    ∀ (l : List Nat) (listed : Array Bool) (a : Act), (∀ i ∈ l, i ∈ H) → listed.size = ops.size → (∀ j oj, ops[j]? = some oj → listed.getD j false = true → ∀ e ∈ oj.after, Region.binds md e = true → listed.getD e.on false = true) →
    listed.getD t2 true = false → lexL md ops (T1 ++ t2 :: T2) l listed = true → wpQuiet P ops C Lq (pick ops l) a →
    wpAnyC P md ops C t2 Q' (l.length + (T1.length + (T2.length + 1))) listed a w
  | [], listed, a, _, hsz, _, _, hB, h => by rw [List.length_nil, Nat.zero_add]; exact hL listed a hsz (by simpa [lexL] using hB) h
  | k :: l, listed, a, hk, hsz, hcl, ht, hB, h => by
    have hkH := hk k (by simp)
    have hkl := (hHT k (by simp [hkH])).1
    have hkt := (hHT k (by simp [hkH])).2
    have h0 : ops[k]? = some ops[k] := Array.getElem?_eq_getElem hkl
    simp only [lexL, Bool.and_eq_true] at hB
    obtain ⟨⟨hr, hf⟩, hB'⟩ := hB
    have hr' : k ∈ Region.ready md ops listed := by simpa using hr
    simp only [pick, List.filterMap_cons, h0] at h
    have hst : qOp P ops C k (wpQuiet P ops C Lq (pick ops l)) a := by unfold qOp; simp only [h0]; exact h
    obtain ⟨v, hy, hK⟩ := yieldsIn_of_qOp h0 hst
    rw [List.length_cons, show l.length + 1 + (T1.length + (T2.length + 1)) = (l.length + (T1.length + (T2.length + 1))) + 1 by omega]
    obtain ⟨_, ok, hok, hall⟩ := mem_ready.1 hr'
    have hcl' : ∀ j oj, ops[j]? = some oj → (listed.setIfInBounds k true).getD j false = true → ∀ e ∈ oj.after, Region.binds md e = true → (listed.setIfInBounds k true).getD e.on false = true := fun j oj hj hl e he hb => by
      by_cases hjk : k = j
      · subst hjk
        have : oj = ok := Option.some.inj (hj.symm.trans hok)
        subst this
        exact getD_set_true (hall e he hb)
      · rw [getD_set_ne false hjk] at hl
        exact getD_set_true (hcl j oj hj hl e he hb)
    refine wpAnyC_first (H := H ++ T1) h0 (Region.noSelect_spec hsel) (fun c a w => hQ c a _ v w) hs (by simp [hkH]) (fun j hj => (hHT j hj).1) (fun h => (hHT t2 h).2 rfl) _ listed a w hsz hcl ht (Region.free_spec h0 hf) hr' hC (YieldsPure.of_quiet (hno k hkH _ h0) hy) ?_
    exact wpAnyC_lex w hC hsel hQ hno hHT ht2 hs hL l _ _ (fun i hi => hk i (by simp [hi])) (by simpa using hsz) hcl' (by rw [getD_set_ne true hkt]; exact ht) hB' hK

/-- Reads H, in whatever order and however late; T1, behind each of which the class stands; then T2. -/
theorem wp_region_mix {id : Nat} {Q : Exit → Act → World → Prop} {a : Act} {w : World} {l : List Oper} (C : World → Prop) (H T1 : List Nat) (t2 : Nat) (T2 : List Nat) (hQ : ∀ c a d v w, Q (.panic c) (Act.put a d v) w → Q (.panic c) a w)
    (hm : P.follows .mixedOrders = true) (hB : mixB .any l.toArray H T1 t2 T2 = true) (hC : C { w with drawn := w.drawn + 1 })
    (h : wpQuiet P l.toArray C (fun a' => wpKeep P l.toArray C Q (fun a' w' => wpList P l.toArray Q (pick l.toArray (t2 :: T2)) a' w') (pick l.toArray T1) a' { w with drawn := w.drawn + 1 }) (pick l.toArray H) a) : (Code.region id l.toArray true).wp P Q a w := by
  simp only [mixB, Bool.and_eq_true, decide_eq_true_eq] at hB
  obtain ⟨⟨⟨⟨⟨⟨⟨hsel, hno⟩, hHT⟩, ht2⟩, hT2⟩, hs⟩, hlen⟩, hlex⟩ := hB
  have hno' : ∀ i ∈ H, ∀ o, l.toArray[i]? = some o → noEnterB o = true := fun i hi o ho => by
    have h1 := List.all_eq_true.1 hno i hi
    rw [ho] at h1; exact h1
  have hHT' : ∀ i ∈ H ++ T1, i < l.toArray.size ∧ i ≠ t2 := fun i hi => by
    have h1 := List.all_eq_true.1 hHT i hi
    simpa using h1
  have hT2' : ∀ t ∈ t2 :: T2, t < l.toArray.size := fun t ht => by
    rcases List.mem_cons.1 ht with rfl | ht
    · exact ht2
    · have h1 := List.all_eq_true.1 hT2 t ht
      simpa using h1
  have mono : ∀ (L : List Oper) (a : Act) (w : World), wpKeep P l.toArray C Q (fun a' w' => wpList P l.toArray Q (pick l.toArray (t2 :: T2)) a' w') L a w → wpKeep P l.toArray C Q (fun a' w' => wpOps P l.toArray Q (t2 :: T2) a' w') L a w := by
    intro L
    induction L with
    | nil => intro a w h; exact wpOps_of_pick _ _ _ hT2' h
    | cons o L ih =>
      intro a w h
      unfold wpKeep at h ⊢
      split
      · rename_i hw; rw [if_pos hw] at h; exact Oper.wp_mono (fun a w h => ⟨h.1, ih a w h.2⟩) h
      · rename_i hw; rw [if_neg hw] at h; exact ⟨h.1, ih _ _ h.2⟩
  refine wp_region_any hm (wpAny_of_C (C := C) (t2 := t2) _ _ _ _ ?_)
  have := wpAnyC_lex (P := P) (Q' := Q) (md := .any) (T2 := T2) { w with drawn := w.drawn + 1 } hC hsel hQ hno' hHT' ht2 hs
    (fun listed a' hsz hseq hL => wpAnyC_of_keep ht2 T1 listed a' _ (fun i hi => hHT' i (by simp [hi])) hsz hC hseq (mono _ _ _ hL)) H (Array.replicate l.toArray.size false) a (fun _ h => h) (by simp)
    (fun j oj _ hl => (by rw [getD_replicate_false] at hl; cases hl)) (getD_in (by simpa using ht2) (getD_replicate_false _ _)) hlex h
  rw [hlen] at this
  exact this
end
/-! ### The class of the worlds that hold all of w but the blocks of S -/
structure Kept (S : Nat → Prop) (w : World) where
  x : World
  fr : Fr S w x
instance (S : Nat → Prop) (w : World) : Inhabited (Kept S w) := ⟨⟨w, Fr.refl S w⟩⟩
theorem Kept.cell {S : Nat → Prop} {w : World} (q : Kept S w) {g o : Nat} {s : Option Nat} (hg : g < w.heap.size) (hn : ¬ S g) : q.x.cell? ⟨g, o, s⟩ = w.cell? ⟨g, o, s⟩ := q.fr.cell hg hn
theorem not_nob (g : Nat) : ¬ nob g := id
theorem Kept.calls {P : Program} {f : FuncId} {args : Array Value} {S : Nat → Prop} {w : World} {q : Kept S w} {v : Value}
    (h : Calls P f args q.x fun e w' => e = .returned v ∧ Below q.x.heap.size q.x w') : Calls P f args q.x fun e w'' => e = .returned v ∧ ∃ q : Kept S w, w'' = q.x :=
  h.mono fun _ w' ⟨he, hb⟩ => ⟨he, ⟨w', q.fr.trans (Fr.of_below hb S)⟩, rfl⟩
theorem Kept.calls_same {P : Program} {f : FuncId} {args : Array Value} {S : Nat → Prop} {w : World} {q : Kept S w} {v : Value}
    (h : Calls P f args q.x fun e w' => e = .returned v ∧ q.x = w') : Calls P f args q.x fun e w'' => e = .returned v ∧ ∃ q : Kept S w, w'' = q.x :=
  h.mono fun _ w' ⟨he, hb⟩ => ⟨he, q, hb.symm⟩
attribute [go_sem] Kept.cell not_nob
/-- Q, but no panic. -/
def NoPan (Q : Exit → Act → World → Prop) : Exit → Act → World → Prop
  | .panic _, _, _ => False
  | e, a, w => Q e a w
theorem NoPan.normal {Q : Exit → Act → World → Prop} {a : Act} {w : World} (h : Q .normal a w) : NoPan Q .normal a w := h
theorem NoPan.to {Q : Exit → Act → World → Prop} : ∀ (e : Exit) (a : Act) (w : World), NoPan Q e a w → Q e a w := fun e a w h => by
  cases e <;> first | exact h | exact (h : False).elim
theorem wpQuiet_mono {P : Program} {ops : Array Oper} {C : World → Prop} {Q1 Q2 : Act → Prop} (hq : ∀ a, Q1 a → Q2 a) : ∀ (L : List Oper) (a : Act), wpQuiet P ops C Q1 L a → wpQuiet P ops C Q2 L a
  | [], a, h => hq _ h
  | o :: L, a, h => by
    unfold wpQuiet at h ⊢
    split
    · rename_i hw; rw [if_pos hw] at h; exact Oper.quiet_mono (fun a => wpQuiet_mono hq L a) h
    · rename_i hw; rw [if_neg hw] at h; exact wpQuiet_mono hq L _ h
theorem wpKeep_mono {P : Program} {ops : Array Oper} {C C' : World → Prop} {Q : Exit → Act → World → Prop} {R : Act → World → Prop} (hc : ∀ w, C w → C' w) : ∀ (L : List Oper) (a : Act) (w : World), wpKeep P ops C Q R L a w → wpKeep P ops C' Q R L a w
  | [], a, w, h => h
  | o :: L, a, w, h => by
    unfold wpKeep at h ⊢
    split
    · rename_i hw; rw [if_pos hw] at h; exact Oper.wp_mono (fun a w h => ⟨hc _ h.1, wpKeep_mono hc L a w h.2⟩) h
    · rename_i hw; rw [if_neg hw] at h; exact ⟨hc _ h.1, wpKeep_mono hc L _ _ h.2⟩
/-- The first n operations read, in whatever order and however late; behind each of the next k all but S stands; then the rest. -/
theorem wp_region_late {P : Program} {id : Nat} {Q : Exit → Act → World → Prop} {a : Act} {w : World} {l : List Oper} (S : Nat → Prop) (n k m : Nat) (hm : P.follows .mixedOrders = true)
    (hB : mixB .any l.toArray (List.range' 0 n) (List.range' n k) (n + k) (List.range' (n + k + 1) m) = true) (hl : n + (k + (m + 1)) = l.length)
    (h : wpQuiet P l.toArray (fun w' => ∃ q : Kept S w, w' = q.x) (fun a' => wpKeep P l.toArray (fun w' => Fr S w w') (NoPan Q) (fun a' w' => wpList P l.toArray (NoPan Q) (l.drop (n + k)) a' w') ((l.drop n).take k) a' w.drew) (l.take n) a) : (Code.region id l.toArray true).wp P Q a w := by
  refine Code.wp_mono (Q := NoPan Q) NoPan.to ?_
  refine wp_region_mix (fun w' => ∃ q : Kept S w, w' = q.x) (List.range' 0 n) (List.range' n k) (n + k) (List.range' (n + k + 1) m) (fun _ _ _ _ _ h => h) hm hB ⟨⟨_, (Fr.refl S w).drew⟩, rfl⟩ ?_
  have e1 : pick l.toArray (List.range' 0 n) = l.take n := by rw [pick_range' l n 0 (by omega)]; rfl
  have e2 : pick l.toArray (List.range' n k) = (l.drop n).take k := by rw [pick_range' l k n (by omega)]
  have e3 : pick l.toArray ((n + k) :: List.range' (n + k + 1) m) = l.drop (n + k) := by
    rw [← List.range'_succ, pick_range' l (m + 1) (n + k) (by omega), List.take_of_length_le (by simp; omega)]
  rw [e1, e2, e3]
  exact wpQuiet_mono (fun a' h' => wpKeep_mono (fun w' hw' => ⟨⟨w', hw'⟩, rfl⟩) _ _ _ h') _ _ h
theorem wpKeep_nil {P : Program} {ops : Array Oper} {C : World → Prop} {Q : Exit → Act → World → Prop} {R : Act → World → Prop} {a : Act} {w : World} (h : R a w) : wpKeep P ops C Q R [] a w := h
/-- One operation of T1. -/
theorem wpKeep_step {P : Program} {ops : Array Oper} {C : World → Prop} {Q : Exit → Act → World → Prop} {R : Act → World → Prop} {a : Act} {w : World} {o : Oper} {rest : List Oper} (hg : o.guard = none)
    (h : ∀ K : Act → World → Prop, (∀ a w, C w → wpKeep P ops C Q R rest a w → K a w) → o.wp P a w K Q) : wpKeep P ops C Q R (o :: rest) a w := by
  unfold wpKeep
  rw [if_pos (by simp [Region.wanted, hg])]
  exact h _ (fun a w hc hk => ⟨hc, hk⟩)
end Go.Proofs.Ytnlkjhhocehhaaa
