/- The contract of Try. -/
import Derived.Test.YtkagfnocpllcpaaDue
namespace Go.Proofs.Ytkagfnocpllcpaa
set_option linter.unusedVariables false
open Go Go.RowKit Go.Proofs
def stepT (now : Int) (x : E) : E := ⟨x.id, x.body, now + waitI (x.tries + 1), x.tries + 1, x.put⟩
def outL (now : Int) (t : List E) : List E := (t.filter (fun x => !decide (x.tries = 6))).map (stepT now)
def goneL (t : List E) : List ByteArray := (t.filter (fun x => decide (x.tries = 6))).map E.id
def pushAll (q : List E) (l : List E) : List E := l.foldl (Hp.pushL ltE) q
theorem take_snoc (t : List E) (k : Nat) (h : k < t.length) : t.take (k + 1) = t.take k ++ [t.getD k default] := by
  rw [List.take_succ_eq_append_getElem h]; simp [h]
theorem outL_yes (now : Int) (t : List E) (k : Nat) (h : k < t.length) (h6 : (t.getD k default).tries = 6) : outL now (t.take (k + 1)) = outL now (t.take k) ∧ goneL (t.take (k + 1)) = goneL (t.take k) ++ [(t.getD k default).id] := by
  rw [take_snoc t k h]
  unfold outL goneL
  simp only [List.filter_append, List.map_append]
  constructor
  · rw [List.filter_cons_of_neg (by simpa using h6)]; simp
  · rw [List.filter_cons_of_pos (by simpa using h6)]; simp
theorem outL_no (now : Int) (t : List E) (k : Nat) (h : k < t.length) (h6 : ¬ (t.getD k default).tries = 6) : outL now (t.take (k + 1)) = outL now (t.take k) ++ [stepT now (t.getD k default)] ∧ goneL (t.take (k + 1)) = goneL (t.take k) := by
  rw [take_snoc t k h]
  unfold outL goneL
  simp only [List.filter_append, List.map_append]
  constructor
  · rw [List.filter_cons_of_pos (by simpa using h6)]; simp
  · rw [List.filter_cons_of_neg (by simpa using h6)]; simp
theorem outL_len (now : Int) (t : List E) : (outL now t).length ≤ t.length := by unfold outL; rw [List.length_map]; exact List.length_filter_le _ _
theorem goneL_len (t : List E) : (goneL t).length ≤ t.length := by unfold goneL; rw [List.length_map]; exact List.length_filter_le _ _
/-- A slice of strings that grows. -/
structure OutS (w W : World) (v : Value) (l : List ByteArray) : Prop where
  own : Own W 9 1 v l.length (l.map Value.string)
  row : ∀ k, rowOf v k → w.heap.size ≤ k
theorem dueF_len (now : Int) : ∀ (f : Nat) (q : List E), q.length ≤ f → (dueF now f q).1.length + (dueF now f q).2.length = q.length
  | 0, q, h => by simp [dueF]
  | f + 1, q, h => by
    rw [dueF]
    split
    · rename_i hh
      have := dueF_len now f (Hp.popL ltE q).1 (by rw [length_popL]; omega)
      rw [length_popL] at this
      simp only [List.length_cons]
      omega
    · simp
theorem dueL_len (now : Int) (q : List E) : (dueL now q).1.length + (dueL now q).2.length = q.length := dueF_len now _ q (Nat.le_refl _)
theorem info9 : (Try.prog.info? 9).map (fun i => (i.zero, i.size, i.bytes)) = some (some (.string ⟨#[]⟩), 1, 16) := by kernel_rfl
def tryF (bn now : Int) (q : List E) : List E × List ByteArray × Int × List E × Int :=
  if clockB bn now = false then ([], [], 9, q, bn) else (outL now (dueL now q).1, goneL (dueL now q).1, 0, pushAll (dueL now q).2 (outL now (dueL now q).1), now)
theorem own_disj {w : World} {e e' : TypeId} {s s' n n' : Nat} {v v' : Value} {xs xs' : List Value} (h : Own w e s v n xs) (h' : Own w e' s' v' n' xs') (hne : e ≠ e') : ∀ k, rowOf v k → ¬ rowOf v' k := fun k hk hk' => by
  obtain ⟨cur, hb⟩ := h.own_block hk
  exact h'.blk_ne hb hne.symm hk'
theorem pushAll_len (q : List E) : ∀ l : List E, (pushAll q l).length = q.length + l.length := by
  intro l
  unfold pushAll
  induction l generalizing q with
  | nil => rfl
  | cons x l ih =>
    rw [List.foldl_cons, ih]
    unfold Hp.pushL
    rw [Hp.length_upL]
    simp; omega
theorem step_cells (now W : Int) (x : E) (hW : W = waitI (x.tries + 1)) : ((entL x).toArray.setIfInBounds 3 (.int .i64 (x.tries + 1))).setIfInBounds 2 (.int .i64 (now + W)) = (entL (stepT now x)).toArray := by
  subst hW; rfl
set_option maxRecDepth 100000 in
set_option maxHeartbeats 2000000 in
theorem try_any (b : Nat) (v : Value) (q : List E) (bn now : Int) (w : World) (h : BoxA w b v q bn) (hl : q.length ≤ 5) (hbn : 0 ≤ bn) (ht : ∀ x ∈ (dueL now q).1, 0 ≤ x.tries ∧ x.tries ≤ 6) :
    Calls Try.prog 10 #[bP b, .int .i64 now] w fun e w' => (∃ vo vg, e = .returned (.tuple #[vo, vg, .int .i64 (tryF bn now q).2.2.1]) ∧ OutE w w' vo (tryF bn now q).1 ∧ OutS w w' vg (tryF bn now q).2.1) ∧ BoxTo b v (tryF bn now q).2.2.2.2 w (tryF bn now q).2.2.2.1 w' := by
  obtain ⟨i0, hi0, hz0, hz1, hz2⟩ := info_parts infoE47
  obtain ⟨i9, hi9, hy0, hy1, hy2⟩ := info_parts info9
  have HC := Lib.hid (clock_any b v q bn now w h)
  have H := Lib.hid h
  obtain ⟨t, ht0⟩ : ∃ t, t = clockB bn now := ⟨_, rfl⟩
  rw [← ht0] at HC
  cases t with
  | false =>
    have hp : tryF bn now q = ([], [], 9, q, bn) := by unfold tryF; rw [if_pos ht0.symm]
    have HP := Lib.hid hp
    clear hp h ht ht0
    go_enter Try.func10, Try.ntmps10
    go_wp2_with (first
      | (go_at_call 25
         refine HC.out.mono ?_
         rintro en w1 ⟨rfl, rfl⟩)
      | fail)
    go_ret3
    rw [HP.out]
    exact ⟨⟨_, _, rfl, ⟨Ents.nil _, fun k hk => by cases hk⟩, ⟨Own.nil _ _ _, fun k hk => by cases hk⟩⟩, BoxTo.same H.out (Below.refl _ _)⟩
  | true =>
    have hp : tryF bn now q = (outL now (dueL now q).1, goneL (dueL now q).1, 0, pushAll (dueL now q).2 (outL now (dueL now q).1), now) := by unfold tryF; rw [if_neg (by rw [← ht0]; simp)]
    have hcl : bn ≤ now ∧ now ≤ 1099511627776 := by
      unfold clockB at ht0
      have := ht0.symm
      simpa using this
    have hdl := dueL_len now q
    have hX1 := h.setNow now
    have hfz := h.blk.frozen 1
    have hcn : w.cell? ⟨b, 1, none⟩ = some (.int .i64 bn) := h.blk.cell 1
    have HD := Lib.hid (due_any b v q now now _ hX1 hl)
    obtain ⟨d, hd⟩ : ∃ d, d = dueL now q := ⟨_, rfl⟩
    rw [← hd] at hp ht HD hdl
    have HT := Lib.hid ht
    have HP := Lib.hid hp
    have hF0 : Fr (foot b v) w (w.setCell ⟨b, 1, none⟩ (.int .i64 now)) := (Fr.refl _ w).setCell' (.inl (.inl rfl)) _
    have HF0 := Lib.hid hF0
    have hn0 : 0 ≤ now := by omega
    have hn1 : now ≤ 1099511627776 := hcl.2
    clear hp h ht ht0 hd hX1 hcl hF0
    go_enter Try.func10, Try.ntmps10
    go_wp2_with (first
      | (go_at_call 25
         refine HC.out.mono ?_
         rintro en w1 ⟨rfl, rfl⟩)
      | (go_at_call 26
         refine HD.out.mono ?_
         rintro en w1 ⟨vd, rfl, hO, vq, hXq, hFq, hRq⟩
         obtain ⟨Ad, cd, rfl, hcd1, hcd2⟩ := hO.ents.shape)
      | fail)
    have HO := Lib.hid hO
    have HXq := Lib.hid hXq
    have HFq := Lib.hid hFq
    have HRq := Lib.hid hRq
    have hd5 : d.1.length ≤ 5 := by omega
    clear hO hXq hFq hRq hcn hfz
    go_loopw [7, 8, 10, 29] (fun c7 c8 _ c29 wr => ∃ k : Nat, k ≤ d.1.length ∧ c29 = .int .i64 k ∧ OutE w1 wr c7 (outL now (d.1.take k)) ∧ OutS w1 wr c8 (goneL (d.1.take k)) ∧ Below w1.heap.size w1 wr) (fun _ _ _ c29 _ => d.1.length - (intOf c29).toNat)
    case atStart => exact ⟨0, by omega, rfl, ⟨Ents.nil _, fun k hk => by cases hk⟩, ⟨Own.nil _ _ _, fun k hk => by cases hk⟩, Below.refl _ _⟩
    case round =>
      obtain ⟨k, hk, rfl, hE, hS, hB⟩ := hrel
      have HE := Lib.hid hE
      have HS := Lib.hid hS
      have HB := Lib.hid hB
      clear hE hS hB
      by_cases hkl : k < d.1.length
      · have hdk : decide ((k : Int) < (d.1.length : Int)) = true := decide_eq_true (by omega)
        obtain ⟨g, o, cap, hv, _, hg, hr, _⟩ := (HO.out.ents.keep HB.out).at_ k hkl
        simp only [Value.slice.injEq] at hv
        obtain ⟨rfl, _, rfl⟩ := hv
        have hmem : d.1.getD k default ∈ d.1 := by simp [List.getD_eq_getElem?_getD, hkl]
        obtain ⟨ht0, ht6⟩ := HT.out _ hmem
        have hyes := outL_yes now d.1 k hkl
        have hno := outL_no now d.1 k hkl
        have hlo := outL_len now (d.1.take k)
        have hlg := goneL_len (d.1.take k)
        have hlt : (d.1.take k).length ≤ 5 := by rw [List.length_take]; omega
        obtain ⟨x, hx⟩ : ∃ x, x = d.1.getD k default := ⟨_, rfl⟩
        rw [← hx] at hr ht0 ht6 hyes hno
        obtain ⟨lo, hlo'⟩ : ∃ lo, lo = outL now (d.1.take k) := ⟨_, rfl⟩
        obtain ⟨lg, hlg'⟩ : ∃ lg, lg = goneL (d.1.take k) := ⟨_, rfl⟩
        rw [← hlo'] at HE hyes hno hlo
        rw [← hlg'] at HS hyes hno hlg
        have HR := Lib.hid hr
        have HY := Lib.hid hyes
        have HN := Lib.hid hno
        have hlo5 : lo.length ≤ 5 := by omega
        have hlg5 : lg.length ≤ 5 := by omega
        clear hx hr hyes hno hlo' hlg' hmem hlo hlg hlt
        obtain ⟨W, hW⟩ : ∃ W, W = waitI (x.tries + 1) := ⟨_, rfl⟩
        have hWb := waitI_bd (x.tries + 1)
        have HWt := Lib.hid (fun w => wait_any (x.tries + 1) w)
        rw [← hW] at hWb HWt
        obtain ⟨hW1, hW2⟩ := hWb
        have HW := Lib.hid hW
        clear hW
        by_cases h6 : x.tries = 6
        · have hq6 : (x.tries == 6) = true := by simpa using h6
          obtain ⟨ho, hgn⟩ := HY.out h6
          have HOo := Lib.hid ho
          have HGn := Lib.hid hgn
          clear ho hgn
          go_wp2_with (first
            | (with_reducible refine wpList_load_mid rfl 47 (.tmp 31) rfl g (o + k * 5) (by with_unfolding_all rfl) (entL x) _ HR.out Try.underlying47 rfl (info47 x) ?_)
            | (with_reducible refine wpList_alloc_run rfl 47 rfl (entL default).toArray zero47 ?_)
            | (refine wpList_store_blk rfl 47 (.tmp 10) (.tmp 32) rfl wr.heap.size 47 (entL default).toArray (entL x).toArray (by rfl) (by rfl) (Blk.new wr 47 _) rfl (info47 _) (one_ent _) ?_
               intro w2 hb2 hf2
               have hF2 : Fr nob wr w2 := ((Fr.refl nob wr).alloc _).then hf2 (fun i hi => Or.inr (by unfold one at hi; omega))
               have hc3 : w2.cell? ⟨wr.heap.size, 3, none⟩ = some (.int .i64 x.tries) := hb2.cell 3
               have hc0 : w2.cell? ⟨wr.heap.size, 0, none⟩ = some (.string x.id) := hb2.cell 0
               have hB4 : Below w1.heap.size w1 (w2.alloc (.cells #[.string x.id] 9)) := (HB.out.trans (hF2.below_nob.mono HB.out.size)).alloc (by have := HB.out.size; have := hF2.size; omega) _
               have hO4 : Own (w2.alloc (.cells #[.string x.id] 9)) 9 1 u8 lg.length (lg.map Value.string) := (HS.out.own.fr hF2 (fun _ h => h.elim)).fr ((Fr.refl nob w2).alloc _) (fun _ h => h.elim)
               have hS4 : Src (w2.alloc (.cells #[.string x.id] 9)) 1 (some ⟨w2.heap.size, 0, none⟩) 1 [.string x.id] := Src.of_new w2 9 #[.string x.id] 1 rfl
               have HO4 := Lib.hid hO4
               have HS4 := Lib.hid hS4
               have HFB4 := Lib.hid hB4
               have HF2 := Lib.hid hF2
               clear hb2 hf2 hF2 hO4 hS4 hB4)
            | (at_builtin
               refine wpList_append_o _ rfl (.tmp 36) (.tmp 39) 27 rfl 9 i9 (.string ⟨#[]⟩) 1 16 Try.underlying27 hi9 hy0 hy1 hy2 (by rfl) (by omega) u8 lg.length (lg.map Value.string) (by rfl) HO4.out (some ⟨w2.heap.size, 0, none⟩) 1 1 [.string x.id] (by rfl) HS4.out (by simp [Value.oneCell']) (by simp only [maxLen]; omega) (by omega) ?_
               intro v5 w5 hown5 hf5 hr5)
            | fail)
          go_roundw
          case rel =>
            have s4 := HFB4.out.size
            refine ⟨k + 1, by omega, by go_num, ?_, ?_, HFB4.out.trans (hf5.below s4 (HS.out.row))⟩
            · rw [HOo.out]
              exact ⟨((HE.out.ents.fr HF2.out (fun _ h => h.elim)).fr ((Fr.refl nob w2).alloc _) (fun _ h => h.elim)).fr hf5 (fun j hj hj2 => own_disj HE.out.ents HS.out.own (by decide) j hj2 hj), HE.out.row⟩
            · rw [HGn.out]
              exact ⟨by rw [List.map_append, List.length_append]; exact hown5, fun j hj => (hr5 j hj).elim (HS.out.row j) (fun h => by omega)⟩
          case measure => simp [intOf]; omega
        · have hq6 : (x.tries == 6) = false := by simpa using h6
          obtain ⟨ho, hgn⟩ := HN.out h6
          have HOo := Lib.hid ho
          have HGn := Lib.hid hgn
          clear ho hgn
          go_wp2_with (first
            | (with_reducible refine wpList_load_mid rfl 47 (.tmp 31) rfl g (o + k * 5) (by with_unfolding_all rfl) (entL x) _ HR.out Try.underlying47 rfl (info47 x) ?_)
            | (with_reducible refine wpList_alloc_run rfl 47 rfl (entL default).toArray zero47 ?_)
            | (refine wpList_store_blk rfl 47 (.tmp 10) (.tmp 32) rfl wr.heap.size 47 (entL default).toArray (entL x).toArray (by rfl) (by rfl) (Blk.new wr 47 _) rfl (info47 _) (one_ent _) ?_
               intro w2 hb2 hf2
               have hF2 : Fr nob wr w2 := ((Fr.refl nob wr).alloc _).then hf2 (fun i hi => Or.inr (by unfold one at hi; omega))
               have hc3 : w2.cell? ⟨wr.heap.size, 3, none⟩ = some (.int .i64 x.tries) := hb2.cell 3
               have hc2 : w2.cell? ⟨wr.heap.size, 2, none⟩ = some (.int .i64 x.due) := hb2.cell 2
               have hf3 := hb2.frozen 3
               have hf22 := hb2.frozen 2
               have hlen2 := hb2.lt
               have HB2 := Lib.hid hb2
               have HF2 := Lib.hid hF2
               have HB4 : Hid (Blk ((w2.setCell ⟨wr.heap.size, 3, none⟩ (.int .i64 (x.tries + 1))).setCell ⟨wr.heap.size, 2, none⟩ (.int .i64 (now + W))) wr.heap.size 47 (entL (stepT now x)).toArray) := Lib.hid (by rw [← step_cells now W x HW.out]; exact (hb2.set_ 3 _).set_ 2 _)
               clear hb2 hf2 hF2)
            | (go_at_call 16
               refine (HWt.out _).mono ?_
               rintro en w3 ⟨rfl, rfl⟩)
            | (with_reducible refine wpList_load_blk rfl 47 (.tmp 10) rfl wr.heap.size 47 (entL (stepT now x)).toArray _ (by with_unfolding_all rfl) HB4.out Try.underlying47 rfl (info47 _) ?_
               obtain ⟨w4, hw4⟩ : ∃ w4, w4 = (w2.setCell ⟨wr.heap.size, 3, none⟩ (.int .i64 (x.tries + 1))).setCell ⟨wr.heap.size, 2, none⟩ (.int .i64 (now + W)) := ⟨_, rfl⟩
               have hF4 : Fr nob wr w4 := by
                 rw [hw4]
                 exact ((HF2.out.setCell' (.inr (Nat.le_refl _)) _).setCell' (.inr (Nat.le_refl _)) _)
               rw [← hw4]
               have hB4 : Below w1.heap.size w1 (w4.alloc (.cells (entL (stepT now x)).toArray 47)) := (HB.out.trans (hF4.below_nob.mono HB.out.size)).alloc (by have := HB.out.size; have := hF4.size; omega) _
               have hO4 : Ents (w4.alloc (.cells (entL (stepT now x)).toArray 47)) u7 lo := (HE.out.ents.fr hF4 (fun _ h => h.elim)).fr ((Fr.refl nob w4).alloc _) (fun _ h => h.elim)
               have hS4 : Src (w4.alloc (.cells (entL (stepT now x)).toArray 47)) 5 (some ⟨w4.heap.size, 0, none⟩) 1 (entL (stepT now x)) := Src.of_new w4 47 (entL (stepT now x)).toArray 5 rfl
               have HO4 := Lib.hid hO4
               have HS4 := Lib.hid hS4
               have HFB4 := Lib.hid hB4
               have HF4 := Lib.hid hF4
               clear hO4 hS4 hB4 hF4 hw4)
            | (with_reducible refine wpList_run _ _ rfl (exec_bs (stepT now x) w4 _ _ 26 52 rfl (by with_unfolding_all rfl) (bs26 _ _)) ?_)
            | (at_builtin
               refine wpList_append_o _ rfl (.tmp 51) (.tmp 53) 26 rfl 47 i0 (.agg (entL default).toArray) 5 56 Try.underlying26 hi0 hz0 hz1 hz2 (by rfl) (by omega) u7 lo.length (qC lo) (by rfl) HO4.out (some ⟨w4.heap.size, 0, none⟩) 1 1 (entL (stepT now x)) (by rfl) HS4.out (entL_one _) (by simp only [maxLen]; omega) (by omega) ?_
               intro v5 w5 hown5 hf5 hr5)
            | fail)
          go_roundw
          case rel =>
            have s4 := HFB4.out.size
            refine ⟨k + 1, by omega, by go_num, ?_, ?_, HFB4.out.trans (hf5.below s4 (HE.out.row))⟩
            · rw [HOo.out]
              exact ⟨by unfold Ents; rw [qC_snoc, List.length_append]; exact hown5, fun j hj => (hr5 j hj).elim (HE.out.row j) (fun h => by omega)⟩
            · rw [HGn.out]
              exact ⟨((HS.out.own.fr HF4.out (fun _ h => h.elim)).fr ((Fr.refl nob w4).alloc _) (fun _ h => h.elim)).fr hf5 (fun j hj hj2 => own_disj HE.out.ents HS.out.own (by decide) j hj hj2), HS.out.row⟩
          case measure => simp [intOf]; omega
      · obtain rfl : k = d.1.length := by omega
        have hdk : decide ((d.1.length : Int) < (d.1.length : Int)) = false := decide_eq_false (by omega)
        rw [List.take_length] at HE HS
        have hlo := outL_len now d.1
        obtain ⟨lo, hlo'⟩ : ∃ lo, lo = outL now d.1 := ⟨_, rfl⟩
        rw [← hlo'] at HE hlo
        have HLO := Lib.hid hlo'
        have hlo5 : lo.length + d.2.length ≤ 5 := by omega
        obtain ⟨A7, c7, hv7, hc71, hc72⟩ := HE.out.ents.shape
        have hXr := HXq.out.keep HB.out
        have hDq : ∀ j, rowOf u7 j → ¬ rowOf vq j := fun j hj hj2 => by
          have h1 := HE.out.row j hj
          have h2 := Own.lt HXq.out.ents hj2
          omega
        have HXr := Lib.hid hXr
        have HDq := Lib.hid hDq
        clear hlo' hlo hXr hDq
        subst hv7
        go_wp2_with fail
        obtain ⟨W2, rfl⟩ : ∃ W2 : World, W2 = wr := ⟨_, rfl⟩
        go_loopw [12, 58] (fun _ c58 wr => ∃ (j : Nat) (v'' : Value), j ≤ lo.length ∧ c58 = .int .i64 j ∧ BoxA wr b v'' (pushAll d.2 (lo.take j)) now ∧ Fr (foot b vq) W2 wr ∧ (∀ k, rowOf v'' k → rowOf vq k ∨ W2.heap.size ≤ k)) (fun _ c58 _ => lo.length - (intOf c58).toNat)
        case atStart => exact ⟨0, vq, by omega, rfl, HXr.out, Fr.refl _ _, fun k hk => .inl hk⟩
        case round =>
          obtain ⟨j, v'', hj, rfl, hX, hF, hR⟩ := hrel
          have HX := Lib.hid hX
          have HF := Lib.hid hF
          have HRR := Lib.hid hR
          clear hX hF hR
          have hu7b : ¬ rowOf (.slice A7 lo.length c7) b := Own.blk_ne HE.out.ents HXr.out.blk (by decide)
          have hE2 : Ents wr (.slice A7 lo.length c7) lo := HE.out.ents.fr HF.out (fun k hk hk2 => by
            rcases hk with rfl | hk
            · exact hu7b hk2
            · exact HDq.out k hk2 hk)
          by_cases hjl : j < lo.length
          · have hdj : decide ((j : Int) < (lo.length : Int)) = true := decide_eq_true (by omega)
            obtain ⟨g, o, cap, hv, _, hg, hr, _⟩ := hE2.at_ j hjl
            simp only [Value.slice.injEq] at hv
            obtain ⟨rfl, _, rfl⟩ := hv
            have hps : pushAll d.2 (lo.take (j + 1)) = Hp.pushL ltE (pushAll d.2 (lo.take j)) (lo.getD j default) := by
              rw [take_snoc lo j hjl]; simp [pushAll]
            have hpl := pushAll_len d.2 (lo.take j)
            rw [List.length_take] at hpl
            obtain ⟨y, hy⟩ : ∃ y, y = lo.getD j default := ⟨_, rfl⟩
            rw [← hy] at hr hps
            obtain ⟨qj, hqj⟩ : ∃ qj, qj = pushAll d.2 (lo.take j) := ⟨_, rfl⟩
            rw [← hqj] at hps hpl HX
            have hq9 : qj.length ≤ 900 := by omega
            have HR := Lib.hid hr
            have HPS := Lib.hid hps
            clear hy hr hps hqj hpl hE2 hu7b
            go_wp2_with (first
              | (with_reducible refine wpList_load_mid rfl 47 (.tmp 60) rfl g (o + j * 5) (by with_unfolding_all rfl) (entL y) _ HR.out Try.underlying47 rfl (info47 y) ?_)
              | (with_reducible refine wpList_alloc_run rfl 47 rfl (entL default).toArray zero47 ?_)
              | (refine wpList_store_blk rfl 47 (.tmp 12) (.tmp 61) rfl wr.heap.size 47 (entL default).toArray (entL y).toArray (by rfl) (by rfl) (Blk.new wr 47 _) rfl (info47 _) (one_ent _) ?_
                 intro w2 hb2 hf2
                 simp only [Act.put, List.setIfInBounds_toArray, List.set_cons_zero, List.set_cons_succ])
              | fail)
            have hF2 : Fr nob wr w2 := ((Fr.refl nob wr).alloc _).then hf2 (fun i hi => Or.inr (by unfold one at hi; omega))
            have RR := Lib.hid (Regrown.range (rangeAt_of_blk hb2) hb2.lt)
            have hbl2 : b < w2.heap.size := Nat.lt_of_lt_of_le HX.out.blk.lt hF2.size
            have HF2 := Lib.hid hF2
            clear hb2 hf2 hF2
            refine wp_region_pre 6 0 (by kernel_rfl) (by kernel_rfl) rfl ?_
            simp only [List.take_succ_cons, List.take_zero, List.drop_succ_cons, List.drop_zero]
            repeat (go_big_quiet_step (fail))
            go_big_quiet_want
            refine quiet_load_mid 47 (.tmp 12) rfl wr.heap.size 0 (entL y) _ rfl RR.out Try.underlying47 rfl (info47 y) ?_
            go_big_quiet_on
            try simp only [Act.put, List.setIfInBounds_toArray, List.set_cons_zero, List.set_cons_succ]
            repeat (go_big_quiet_step (fail))
            refine wpQuiet_nil ?_
            intro w3 hb3
            have HPU := Lib.hid (hpush_any b qj y v'' now w3 ((HX.out.row (HF2.out.mono (fun _ _ h => h.elim)) (HX.out.ents.fr HF2.out (fun _ h => h.elim))).keep hb3) hq9)
            go_wp2_with (first
              | (go_at_call 27
                 refine HPU.out.mono ?_
                 rintro en w4 ⟨rfl, v4, hX4, hF4, hR4⟩)
              | fail)
            have hwr3 : Fr nob wr w3 := HF2.out.trans (Fr.of_below hb3 _)
            go_roundw
            case rel =>
              refine ⟨j + 1, v4, by omega, by go_num, by rw [HPS.out]; exact hX4, ?_, ?_⟩
              · refine (HF.out.trans (hwr3.mono (fun _ _ h => h.elim))).then hF4 (fun k hk => ?_)
                rcases hk with rfl | hk
                · exact .inl (.inl rfl)
                · exact (HRR.out k hk).elim (fun h => .inl (.inr h)) .inr
              · intro k hk
                have s1 := HF.out.size
                have s2 := hwr3.size
                exact (hR4 k hk).elim (HRR.out k) (fun h => .inr (by omega))
            case measure => simp [intOf]; omega
          · obtain rfl : j = lo.length := by omega
            have hdj : decide ((lo.length : Int) < (lo.length : Int)) = false := decide_eq_false (by omega)
            go_wp2_with fail
            go_ret3
            rw [HP.out]
            have hS2 : Own wr 9 1 u8 (goneL d.1).length ((goneL d.1).map Value.string) := HS.out.own.fr HF.out (fun k hk hk2 => by
              rcases hk with rfl | hk
              · exact HS.out.own.blk_ne HXr.out.blk (by decide) hk2
              · have h1 := HS.out.row k hk2
                have h2 := Own.lt HXq.out.ents hk
                omega)
            have hw01 : w.heap.size ≤ w1.heap.size := by have := HF0.out.size; have := HFq.out.size; omega
            rw [← HLO.out]
            refine ⟨⟨_, _, rfl, ⟨hE2, fun k hk => by have := HE.out.row k hk; omega⟩, ⟨hS2, fun k hk => by have := HS.out.row k hk; omega⟩⟩, ?_⟩
            rw [List.take_length] at HX
            have s0 := HF0.out.size
            refine ⟨v'', HX.out, ?_, fun k hk => ?_⟩
            · have h1 : Fr (foot b v) w w1 := HF0.out.then HFq.out (fun k hk => by
                rcases hk with rfl | hk
                · exact .inl (.inl rfl)
                · exact .inl (.inr hk))
              have h2 : Fr (foot b v) w W2 := h1.trans (Fr.of_below HB.out _)
              refine h2.then HF.out (fun k hk => ?_)
              rcases hk with rfl | hk
              · exact .inl (.inl rfl)
              · exact (HRq.out k hk).elim (fun h => .inl (.inr h)) (fun h => .inr (by omega))
            · have s1 := HB.out.size
              exact (HRR.out k hk).elim (fun h => (HRq.out k h).elim .inl (fun h => .inr (by omega))) (fun h => .inr (by omega))
theorem try_nil (now : Int) (w : World) : Calls Try.prog 10 #[.pointer none, .int .i64 now] w fun e w' => e = .returned (.tuple #[.slice none 0 0, .slice none 0 0, .int .i64 1]) ∧ w = w' := by
  go_enter Try.func10, Try.ntmps10
  go_wp2_with fail
  go_ret3
  exact ⟨rfl, rfl⟩
end Go.Proofs.Ytkagfnocpllcpaa
