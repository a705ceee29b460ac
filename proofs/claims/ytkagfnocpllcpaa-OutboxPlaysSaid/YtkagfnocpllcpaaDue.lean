/- The contract of due: the entries that are due are taken out. -/
import Derived.Test.YtkagfnocpllcpaaPut
namespace Go.Proofs.Ytkagfnocpllcpaa
set_option linter.unusedVariables false
open Go Go.RowKit Go.Proofs
def dueF (now : Int) : Nat → List E → List E × List E
  | 0, q => ([], q)
  | f + 1, q => if 0 < q.length ∧ (q.getD 0 default).due ≤ now then ((Hp.popL ltE q).2 :: (dueF now f (Hp.popL ltE q).1).1, (dueF now f (Hp.popL ltE q).1).2) else ([], q)
def dueL (now : Int) (q : List E) : List E × List E := dueF now q.length q
theorem length_popL (q : List E) : (Hp.popL ltE q).1.length = q.length - 1 := by
  unfold Hp.popL
  simp only [List.length_take, Hp.length_downL, Hp.length_swapL]
  omega
/-- A list of entries that grows. -/
structure OutE (w W : World) (v : Value) (l : List E) : Prop where
  ents : Ents W v l
  row : ∀ k, rowOf v k → w.heap.size ≤ k
theorem qC_snoc (l : List E) (e : E) : qC (l ++ [e]) = qC l ++ entL e := by rw [qC_append]; simp [qC]
theorem bs26 (e : E) (W : World) : (Instr.buildSlice 26 1 #[(0, entV e)]).run Try.prog W = .ok (.slice (some ⟨W.heap.size, 0, none⟩) 1 1) (W.alloc (.cells (entL e).toArray 47)) := by
  obtain ⟨e1, e2, e3, e4, e5⟩ := e
  kernel_rfl
theorem entL_one (e : E) : ∀ u ∈ entL e, u.oneCell' = true := by have := qC_one [e]; simpa [qC] using this
theorem out_carry {w wr w1 w2 : World} {b : Nat} {v' c5 : Value} {r t : List E} {bn : Int} (hX : BoxA wr b v' r bn) (hO : OutE w wr c5 t) (hD : ∀ k, rowOf c5 k → ¬ rowOf v' k)
    (hF1 : Fr (foot b v') wr w1) (hF2 : Fr nob w1 w2) (o : Obj) : Ents (w2.alloc o) c5 t := by
  have hb : ¬ rowOf c5 b := Own.blk_ne hO.ents hX.blk (by decide)
  refine ((hO.ents.fr hF1 (fun k hk hk2 => ?_)).fr hF2 (fun _ h => h.elim)).fr ((Fr.refl nob w2).alloc o) (fun _ h => h.elim)
  rcases hk with rfl | hk
  · exact hb hk2
  · exact hD k hk2 hk
theorem due_step {w wr w1 w2 w4 : World} {b : Nat} {v v' u5 v1 v4 : Value} {r r' t : List E} {x : E} {bn : Int} {o : Obj} (hX : BoxA wr b v' r bn) (hO : OutE w wr u5 t) (hF : Fr (foot b v) w wr)
    (hR : ∀ k, rowOf v' k → rowOf v k ∨ w.heap.size ≤ k) (hD : ∀ k, rowOf u5 k → ¬ rowOf v' k) (hX1 : BoxA w1 b v1 r' bn) (hR1 : ∀ k, rowOf v1 k → rowOf v' k ∨ wr.heap.size ≤ k) (hF1 : Fr (foot b v') wr w1) (hF2 : Fr nob w1 w2)
    (hown4 : Own w4 47 5 v4 (t.length + 1) (qC t ++ entL x)) (hf4 : Fr (rowOf u5) (w2.alloc o) w4) (hr4 : ∀ k, rowOf v4 k → rowOf u5 k ∨ (w2.alloc o).heap.size ≤ k) :
    BoxA w4 b v1 r' bn ∧ OutE w w4 v4 (t ++ [x]) ∧ Fr (foot b v) w w4 ∧ (∀ k, rowOf v1 k → rowOf v k ∨ w.heap.size ≤ k) ∧ (∀ k, rowOf v4 k → ¬ rowOf v1 k) := by
  have hb : ¬ rowOf u5 b := Own.blk_ne hO.ents hX.blk (by decide)
  have s1 := hF.size
  have s2 := hF1.size
  have s3 := hF2.size
  have s4 : (w2.alloc o).heap.size = w2.heap.size + 1 := by simp
  have hDu : ∀ k, rowOf u5 k → ¬ rowOf v1 k := fun k hk hk1 => (hR1 k hk1).elim (hD k hk) (fun h => by have := Own.lt hO.ents hk; omega)
  have hF3 : Fr nob w2 (w2.alloc o) := (Fr.refl nob w2).alloc o
  refine ⟨⟨((hX1.blk.fr hF2 (fun h => h)).fr hF3 (fun h => h)).fr hf4 hb, ((hX1.ents.fr hF2 (fun _ h => h.elim)).fr hF3 (fun _ h => h.elim)).fr hf4 hDu⟩, ⟨?_, fun k hk => (hr4 k hk).elim (hO.row k) (fun h => by omega)⟩, ?_, fun k hk => (hR1 k hk).elim (hR k) (fun h => .inr (by omega)), fun k hk hk1 => (hr4 k hk).elim (fun h => hDu k h hk1) (fun h => by have := Own.lt hX1.ents hk1; omega)⟩
  · unfold Ents
    rw [qC_snoc, List.length_append]
    exact hown4
  · have h1 : Fr (foot b v) w w1 := hF.then hF1 (fun k hk => by
      rcases hk with rfl | hk
      · exact .inl (.inl rfl)
      · exact (hR k hk).elim (fun h => .inl (.inr h)) .inr)
    exact ((h1.trans (hF2.mono (fun _ _ h => h.elim))).alloc o).then hf4 (fun k hk => .inr (hO.row k hk))
set_option maxRecDepth 100000 in
set_option maxHeartbeats 2000000 in
theorem due_any (b : Nat) (v : Value) (q : List E) (bn now : Int) (w : World) (h : BoxA w b v q bn) (hl : q.length ≤ 5) :
    Calls Try.prog 26 #[bP b, .int .i64 now] w fun e w' => ∃ vo, e = .returned vo ∧ OutE w w' vo (dueL now q).1 ∧ BoxTo b v bn w (dueL now q).2 w' := by
  obtain ⟨i0, hi0, hz0, hz1, hz2⟩ := info_parts infoE47
  have H := Lib.hid h
  have hbl := h.blk.lt
  have HNR := Lib.hid h.ne
  have hvl : ∀ k, rowOf v k → k < w.heap.size := fun k hk => Own.lt h.ents hk
  have HVL := Lib.hid hvl
  clear h hvl
  go_enter Try.func26, Try.ntmps26
  go_wp2_with fail
  go_loopw [5, 6, 7] (fun c5 _ _ wr => ∃ (t r : List E) (f : Nat) (v' : Value), r.length ≤ f ∧ t.length + r.length ≤ 5 ∧ dueL now q = (t ++ (dueF now f r).1, (dueF now f r).2) ∧ BoxA wr b v' r bn ∧ OutE w wr c5 t ∧ Fr (foot b v) w wr ∧ (∀ k, rowOf v' k → rowOf v k ∨ w.heap.size ≤ k) ∧ (∀ k, rowOf c5 k → ¬ rowOf v' k))
    (fun _ _ _ wr => match wr.cell? ⟨b, 0, none⟩ with | some (.slice _ n _) => n | _ => 0)
  case atStart => exact ⟨[], q, q.length, v, Nat.le_refl _, by simp; omega, rfl, H.out, ⟨Ents.nil _, fun k hk => by cases hk⟩, Fr.refl _ _, fun k hk => .inl hk, fun k hk => by cases hk⟩
  case round =>
    obtain ⟨t, r, f, v', hrf, htr, hq, hX, hO, hF, hR, hD⟩ := hrel
    have HQ := Lib.hid hq
    have HX := Lib.hid hX
    have HO := Lib.hid hO
    have HF := Lib.hid hF
    have HR := Lib.hid hR
    have HD := Lib.hid hD
    have hc := hX.cell
    obtain ⟨A, c, hv', hc1, hc2⟩ := hX.ents.shape
    subst hv'
    have hr5 : r.length ≤ 5 := by omega
    clear hq hO hF hR hD
    by_cases h0 : r.length = 0
    · have hr0 : r = [] := List.eq_nil_of_length_eq_zero h0
      subst hr0
      have hd0 : dueF now f [] = ([], []) := by cases f <;> simp [dueF]
      have HD0 := Lib.hid hd0
      clear hd0 hX hc1
      go_wp2_with fail
      go_ret
      refine ⟨_, rfl, ?_, ?_⟩
      · rw [HQ.out, HD0.out, List.append_nil]; exact HO.out
      · rw [HQ.out, HD0.out]; exact ⟨_, HX.out, HF.out, HR.out⟩
    · obtain ⟨f', rfl⟩ : ∃ f', f = f' + 1 := ⟨f - 1, by omega⟩
      obtain ⟨g, o, cap, hv, hrw, hg, _, _, hall⟩ := hX.ents.all (by omega)
      simp only [Value.slice.injEq] at hv
      obtain ⟨rfl, _, rfl⟩ := hv
      obtain ⟨hra, _⟩ := hall 0 (by omega)
      obtain ⟨x, hx⟩ : ∃ x, x = r.getD 0 default := ⟨_, rfl⟩
      rw [← hx] at hra
      have hdd : wr.cell? ⟨g, o + 2, none⟩ = some (.int .i64 x.due) := by
        have := hra 2 (.int .i64 x.due) rfl
        simpa using this
      obtain ⟨n, hn⟩ : ∃ n, r.length = n + 1 := ⟨r.length - 1, by omega⟩
      have hpos : decide ((0 : Int) < (r.length : Int)) = true := decide_eq_true (by omega)
      clear hall hra
      by_cases hdu : x.due ≤ now
      · have hst : dueF now (f' + 1) r = ((Hp.popL ltE r).2 :: (dueF now f' (Hp.popL ltE r).1).1, (dueF now f' (Hp.popL ltE r).1).2) := by
          rw [dueF, if_pos ⟨by omega, by rw [← hx]; exact hdu⟩]
        have HST := Lib.hid hst
        have HPL := Lib.hid (length_popL r)
        have HP := Lib.hid (hpop_any b r (.slice (some ⟨g, o, none⟩) r.length c) bn wr hX (by omega) (by omega))
        have has := fun w => assert47 (Hp.popL ltE r).2 w
        have hdt : decide (x.due ≤ now) = true := decide_eq_true hdu
        clear hst hx hX hn hdu
        go_wp2_with (first
          | (go_at_call 36
             refine HP.out.mono ?_
             rintro en w1 ⟨rfl, v1, hX1, hF1, hR1⟩
             have HX1 := Lib.hid hX1
             have HR1 := Lib.hid hR1
             have HF1 := Lib.hid hF1
             clear hX1 hR1 hF1)
          | (with_reducible refine wpList_alloc_run rfl 47 rfl (entL default).toArray zero47 ?_)
          | (refine wpList_store_blk rfl 47 (.tmp 6) (.tmp 32) rfl w1.heap.size 47 (entL default).toArray (entL (Hp.popL ltE r).2).toArray (by rfl) (by rfl) (Blk.new w1 47 _) rfl (info47 _) (one_ent _) ?_
             intro w2 hb2 hf2
             have hF2 : Fr nob w1 w2 := ((Fr.refl nob w1).alloc _).then hf2 (fun i hi => Or.inr (by unfold one at hi; omega))
             have hO3 : Ents (w2.alloc (.cells (entL (Hp.popL ltE r).2).toArray 47)) u5 t := out_carry HX.out HO.out HD.out HF1.out hF2 _
             have hS3 : Src (w2.alloc (.cells (entL (Hp.popL ltE r).2).toArray 47)) 5 (some ⟨w2.heap.size, 0, none⟩) 1 (entL (Hp.popL ltE r).2) := Src.of_new w2 47 (entL (Hp.popL ltE r).2).toArray 5 rfl
             have HB2 := Lib.hid hb2
             have HF2 := Lib.hid hF2
             have HO3 := Lib.hid hO3
             have HS3 := Lib.hid hS3
             clear hb2 hf2 hF2 hO3 hS3)
          | (with_reducible refine wpList_load_blk rfl 47 (.tmp 6) rfl w1.heap.size 47 (entL (Hp.popL ltE r).2).toArray _ (by with_unfolding_all rfl) HB2.out Try.underlying47 rfl (info47 _) ?_)
          | (with_reducible refine wpList_run _ _ rfl (exec_bs (Hp.popL ltE r).2 w2 _ _ 26 36 rfl (by with_unfolding_all rfl) (bs26 _ _)) ?_)
          | (at_builtin
             refine wpList_append_o _ rfl (.tmp 35) (.tmp 37) 26 rfl 47 i0 (.agg (entL default).toArray) 5 56 Try.underlying26 hi0 hz0 hz1 hz2 (by rfl) (by omega) u5 t.length (qC t) (by rfl) HO3.out (some ⟨w2.heap.size, 0, none⟩) 1 1 (entL (Hp.popL ltE r).2) (by rfl) HS3.out (entL_one _) (by simp only [maxLen]; omega) (by omega) ?_
             intro v4 w4 hown4 hf4 hr4)
          | fail)
        obtain ⟨h1, h2, h3, h4, h5⟩ := due_step HX.out HO.out HF.out HR.out HD.out HX1.out HR1.out HF1.out HF2.out hown4 hf4 hr4
        refine ⟨⟨t ++ [(Hp.popL ltE r).2], (Hp.popL ltE r).1, f', v1, by rw [HPL.out]; omega, by rw [HPL.out]; simp; omega, ?_, h1, h2, h3, h4, h5⟩, ?_⟩
        · rw [HQ.out, HST.out, List.append_assoc]; rfl
        · have hcc := h1.cell
          obtain ⟨A1, c1, rfl, _, _⟩ := h1.ents.shape
          rw [hcc, hc]
          show (Hp.popL ltE r).1.length < r.length
          rw [HPL.out]; omega
      · have hst : dueF now (f' + 1) r = ([], r) := by rw [dueF, if_neg (fun h => hdu (by rw [hx]; exact h.2))]
        have HST := Lib.hid hst
        have hdt : decide (x.due ≤ now) = false := decide_eq_false hdu
        clear hst hx hX hn hdu
        go_wp2_with fail
        go_ret
        refine ⟨_, rfl, ?_, ?_⟩
        · rw [HQ.out, HST.out, List.append_nil]; exact HO.out
        · rw [HQ.out, HST.out]; exact ⟨_, HX.out, HF.out, HR.out⟩
end Go.Proofs.Ytkagfnocpllcpaa
