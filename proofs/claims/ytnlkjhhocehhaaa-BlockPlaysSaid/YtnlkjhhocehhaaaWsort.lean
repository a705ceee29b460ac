/- The library's insertion sort over writes. Written by wip/mkwsort.py, after OSort. -/
import Derived.Test.YtnlkjhhocehhaaaWs
namespace Go.Proofs.Ytnlkjhhocehhaaa
set_option linter.unusedVariables false
open Go Go.RowKit Go.Proofs
def cmpI (a b : Int) : Int := if a < b then -1 else if b < a then 1 else 0
def cmpW (a b : Wr) : Int := cmpI a.room b.room
theorem nanI_any (a : Int) (w : World) : Calls Try.prog 103 #[.int .i64 a] w fun e w' => e = .returned (.bool false) ∧ w = w' := by
  go_enter Try.func103, Try.ntmps103
  go_wp2_with fail
  go_ret
  exact ⟨rfl, rfl⟩
theorem cmpI_any (a b : Int) (w : World) : Calls Try.prog 98 #[.int .i64 a, .int .i64 b] w fun e w' => e = .returned (.int .i64 (cmpI a b)) ∧ w = w' := by
  rcases Int.lt_trichotomy a b with h | h | h
  · have e : cmpI a b = -1 := by unfold cmpI; simp [h]
    have E := Lib.hid e
    have hd : decide (a < b) = true := decide_eq_true h
    clear e
    go_enter Try.func98, Try.ntmps98
    go_wp2_with (go_at_call 103; refine (nanI_any _ _).mono ?_; rintro e w' ⟨rfl, rfl⟩)
    go_ret
    exact ⟨by rw [E.out]; first | rfl | simp, rfl⟩
  · have e : cmpI a b = 0 := by unfold cmpI; simp [h]
    have E := Lib.hid e
    have hd : decide (a < b) = false := decide_eq_false (by omega)
    have hd2 : decide (b < a) = false := decide_eq_false (by omega)
    clear e h
    go_enter Try.func98, Try.ntmps98
    go_wp2_with (go_at_call 103; refine (nanI_any _ _).mono ?_; rintro e w' ⟨rfl, rfl⟩)
    go_ret
    exact ⟨by rw [E.out]; first | rfl | simp, rfl⟩
  · have e : cmpI a b = 1 := by unfold cmpI; rw [if_neg (by omega), if_pos h]
    have E := Lib.hid e
    have hd : decide (a < b) = false := decide_eq_false (by omega)
    have hd2 : decide (b < a) = true := decide_eq_true h
    clear e
    go_enter Try.func98, Try.ntmps98
    go_wp2_with (go_at_call 103; refine (nanI_any _ _).mono ?_; rintro e w' ⟨rfl, rfl⟩)
    go_ret
    exact ⟨by rw [E.out]; first | rfl | simp, rfl⟩
theorem cmpW_any (x y : Wr) (w : World) : Calls Try.prog 97 #[wrV x, wrV y] w fun e w' => e = .returned (.int .i64 (cmpW x y)) ∧ Below w.heap.size w w' := by
  obtain ⟨r1, A1, c1, x1⟩ := x
  obtain ⟨r2, A2, c2, x2⟩ := y
  have HC := Lib.hid (fun w => cmpI_any r1 r2 w)
  have HB := Lib.hid (((Below.refl _ w).alloc (Nat.le_refl _) (.cells #[.int .i64 r1, .slice A1 x1.length c1] 73)).alloc (by simp) (.cells #[.int .i64 r2, .slice A2 x2.length c2] 73))
  unfold wrV wrC Wr.u
  go_enter Try.func97, Try.ntmps97
  go_wp2_with (go_at_call 98; refine (HC.out _).mono ?_; rintro e w' ⟨rfl, rfl⟩)
  go_ret
  exact ⟨rfl, HB.out⟩
theorem ltW_cmp (x y : Wr) : ltW x y = decide (cmpW x y < 0) := by
  unfold ltW cmpW cmpI
  by_cases h : x.room < y.room
  · simp [h]
  · simp only [h]
    by_cases h2 : y.room < x.room <;> simp [h2]
def insAt : Nat → List Wr → List Wr
  | 0, l => l
  | j + 1, l => if ltW (l.getD (j + 1) default) (l.getD j default) then insAt j (Hp.swapL l j (j + 1)) else l
def isortTo : Nat → List Wr → List Wr
  | 0, l => l
  | k + 1, l => insAt (k + 1) (isortTo k l)
def isortL (l : List Wr) : List Wr := isortTo (l.length - 1) l
theorem length_insAt : ∀ (j : Nat) (l : List Wr), (insAt j l).length = l.length
  | 0, _ => rfl
  | j + 1, l => by
    rw [insAt]; split
    · rw [length_insAt j, Hp.length_swapL]
    · rfl
theorem length_isortTo : ∀ (k : Nat) (l : List Wr), (isortTo k l).length = l.length
  | 0, _ => rfl
  | k + 1, l => by rw [isortTo, length_insAt, length_isortTo k]
theorem swapL_comm (l : List Wr) (j : Nat) : (l.set (j + 1) (l.getD j default)).set j (l.getD (j + 1) default) = Hp.swapL l j (j + 1) := by
  unfold Hp.swapL
  rw [List.set_comm _ _ (by omega)]
abbrev cmpV : Value := .func (.func 97) #[] #[]
set_option maxRecDepth 100000 in
set_option maxHeartbeats 4000000 in
theorem wsort_any (l : List Wr) (v : Value) (w : World) (h : WsO w v l) (hl : l.length ≤ 100) :
    Calls Try.prog 104 #[v, .int .i64 0, .int .i64 (l.length : Int), cmpV] w fun e w' => e = .returned (.tuple #[]) ∧ WsO w' v (isortL l) ∧ Fr (rowOf v) w w' := by
  obtain ⟨A, c, hv, hc1, hc2⟩ := h.shape
  obtain ⟨n, hn⟩ : ∃ n, n = l.length := ⟨_, rfl⟩
  have H := Lib.hid h
  rw [← hn] at hv hl ⊢
  subst hv
  have HN := Lib.hid hn
  clear h hn hc1
  go_enter Try.func104, Try.ntmps104
  go_wp2_with fail
  go_loopw [8, 9] (fun c8 _ wr => ∃ k : Nat, 1 ≤ k ∧ k ≤ n - 1 + 1 ∧ c8 = .int .i64 (k : Int) ∧ WsO wr (.slice A n c) (isortTo (k - 1) l) ∧ Fr (rowOf (.slice A n c)) w wr) (fun c8 _ _ => n + 1 - (intOf c8).toNat)
  case atStart => exact ⟨1, by omega, by omega, rfl, H.out, Fr.refl _ _⟩
  case round =>
    obtain ⟨k, hk1, hk, rfl, hE, hF⟩ := hrel
    have HE := Lib.hid hE
    have HF := Lib.hid hF
    clear hE hF
    by_cases hkn : k < n
    · have hd : decide ((k : Int) < (n : Int)) = true := decide_eq_true (by omega)
      have hst0 : isortTo k l = insAt k (isortTo (k - 1) l) := by
        obtain ⟨q, rfl⟩ : ∃ q, k = q + 1 := ⟨k - 1, by omega⟩
        rfl
      have HS0 := Lib.hid hst0
      clear hst0
      obtain ⟨wo, rfl⟩ : ∃ wo : World, wo = wr := ⟨_, rfl⟩
      obtain ⟨L, HL⟩ : ∃ L, Hid (L = isortTo (k - 1) l) := ⟨_, Lib.hid rfl⟩
      rw [← HL.out] at HE
      have hLl : L.length = n := by rw [HL.out, length_isortTo, HN.out]
      have HLl := Lib.hid hLl
      clear hLl
      go_wp2_with fail
      go_loopw [9] (fun c9 wr => ∃ (j : Nat) (l' : List Wr), j ≤ k ∧ l'.length = n ∧ c9 = .int .i64 (j : Int) ∧ insAt k L = insAt j l' ∧ WsO wr (.slice A n c) l' ∧ Fr (rowOf (.slice A n c)) w wr) (fun c9 _ => (intOf c9).toNat)
      case atStart => exact ⟨k, L, by omega, HLl.out, rfl, rfl, HE.out, HF.out⟩
      case round =>
        obtain ⟨j, l', hj, hl', rfl, hi, hE, hF⟩ := hrel
        have HI := Lib.hid hi
        have HE2 := Lib.hid hE
        have HF2 := Lib.hid hF
        have HLL := Lib.hid hl'
        clear hi hE hF
        cases j with
        | zero =>
          clear hl'
          have hd0 : decide ((0 : Int) < ((0 : Nat) : Int)) = false := by decide
          go_wp2_with fail
          refine wp_region_quiet_below (by kernel_rfl) (by kernel_rfl) ?_
          repeat (go_big_quiet_step (fail))
          refine wpQuiet_nil ?_
          intro w2 hw2
          have hb2 := Re.below hw2
          clear hw2
          go_wp2_with fail
          go_roundw
          case rel => exact ⟨k + 1, by omega, by omega, by go_num, by rw [show k + 1 - 1 = k from by omega, HS0.out, ← HL.out, HI.out]; exact HE2.out.keep hb2, HF2.out.trans (Fr.of_below hb2 _)⟩
          case measure => simp [intOf]; omega
        | succ j =>
          have hd0 : decide ((0 : Int) < ((j + 1 : Nat) : Int)) = true := decide_eq_true (by omega)
          obtain ⟨g, o, cap, hv, hr, hg, -, -, hall⟩ := HE2.out.all (by omega)
          simp only [Value.slice.injEq] at hv
          obtain ⟨rfl, -, rfl⟩ := hv
          obtain ⟨hi1, -⟩ := hall (j + 1) (by omega)
          obtain ⟨hj1, -⟩ := hall j (by omega)
          have hst : insAt (j + 1) l' = if ltW (l'.getD (j + 1) default) (l'.getD j default) then insAt j (Hp.swapL l' j (j + 1)) else l' := rfl
          have hsw := swapL_comm l' j
          obtain ⟨x, hx⟩ : ∃ x, x = l'.getD (j + 1) default := ⟨_, rfl⟩
          obtain ⟨y, hy⟩ : ∃ y, y = l'.getD j default := ⟨_, rfl⟩
          rw [← hx] at hi1 hst hsw
          rw [← hy] at hj1 hst hsw
          have R1 := Lib.hid (Regrown.range hi1 hg)
          have R2 := Lib.hid (Regrown.range hj1 hg)
          have hz1 : (((j + 1 : Nat) : Int) - 1) = (j : Int) := by omega
          have hz2 : (0 : Int) ≤ (j : Int) := by omega
          have hz3 : (j : Int) < (n : Int) := by omega
          have hz4 : ((j : Int) + 1) < (n : Int) := by omega
          have hz5 : (0 : Int) ≤ (j : Int) + 1 := by omega
          obtain ⟨t, ht⟩ : ∃ t, t = ltW x y := ⟨_, rfl⟩
          have HC := Lib.hid (show ∀ W, Calls Try.prog 97 #[wrV x, wrV y] W fun e w' => e = .returned (.int .i64 (cmpW x y)) ∧ Below W.heap.size W w' from fun W => cmpW_any x y W)
          have htc : decide (cmpW x y < 0) = t := by rw [ht, ltW_cmp]
          rw [← ht] at hst
          have HST := Lib.hid hst
          have HSW := Lib.hid hsw
          have HXX := Lib.hid hx
          have HYY := Lib.hid hy
          clear hall hi1 hj1 hx hy hst hsw ht hl'
          go_wp2_with fail
          refine wp_region_quiet_below (by kernel_rfl) (by kernel_rfl) ?_
          repeat (go_big_quiet_step (fail))
          go_big_quiet_want
          refine quiet_load_mid 73 (.tmp 25) rfl g (o + (j + 1) * 2) (wrC x) _ rfl R1.out Try.underlying73 rfl (info73 x) ?_
          go_big_quiet_on
          try simp only [Act.put, List.setIfInBounds_toArray, List.set_cons_zero, List.set_cons_succ]
          repeat (go_big_quiet_step (fail))
          go_big_quiet_want
          refine quiet_load_mid 73 (.tmp 30) rfl g (o + j * 2) (wrC y) _ rfl R2.out Try.underlying73 rfl (info73 y) ?_
          go_big_quiet_on
          try simp only [Act.put, List.setIfInBounds_toArray, List.set_cons_zero, List.set_cons_succ]
          repeat (go_big_quiet_step ((go_at_call 97; with_reducible exact regrown_below (HC.out _))))
          refine wpQuiet_nil ?_
          intro w2 hw2
          have hb2 := Re.below hw2
          clear hw2
          cases t with
          | false =>
            go_wp2_with fail
            go_roundw
            case rel => exact ⟨k + 1, by omega, by omega, by go_num, by rw [show k + 1 - 1 = k from by omega, HS0.out, ← HL.out, HI.out, HST.out, if_neg (by simp)]; exact HE2.out.keep hb2, HF2.out.trans (Fr.of_below hb2 _)⟩
            case measure => simp [intOf]; omega
          | true =>
            have h2 : WsO w2 (.slice (some ⟨g, o, none⟩) l'.length c) l' := by have := HE2.out.keep hb2; rw [HLL.out]; exact this
            have hjl : j < l'.length := by rw [HLL.out]; omega
            have hjl1 : j + 1 < l'.length := by rw [HLL.out]; omega
            obtain ⟨q1, t1, hg2⟩ := h2.at' (j + 1) hjl1
            obtain ⟨q2, t2, -⟩ := h2.at' j hjl
            have H2 := Lib.hid h2
            have e1 : l'.getD (j + 1) default = x := HXX.out.symm
            have e2 : l'.getD j default = y := HYY.out.symm
            rw [e1] at q1
            rw [e2] at q2
            have R1 := Lib.hid (fun W (hW : ∃ q : Kept nob w2, W = q.x) => Kept.range q1 hg2 (fun h => h) W hW)
            have R2 := Lib.hid (fun W (hW : ∃ q : Kept nob w2, W = q.x) => Kept.range q2 hg2 (fun h => h) W hW)
            have HJ := Lib.hid (And.intro hjl hjl1)
            clear q1 q2 t1 t2 h2 hjl hjl1 hg2 e1 e2
            go_wp2_with fail
            refine wp_region_pure [0, 1, 2, 3, 4, 5, 6, 7, 8, 10, 11, 12] [9, 13] 14 [15, 16, 17] (by kernel_rfl) (by kernel_rfl) ?_
            simp only [pick, List.filterMap_cons, List.filterMap_nil, List.getElem?_toArray, List.getElem?_cons_succ, List.getElem?_cons_zero]
            show wpQuiet _ _ _ _ [_, _, _, _, _, _, _, _, _, _, _, _] _
            repeat (go_big_quiet_step (fail))
            refine wpQuiet_nil ?_
            show wpQuiet _ _ _ _ [_, _] _
            go_big_quiet_want
            refine quiet_load_mid 73 (.tmp 45) rfl g (o + j * 2) (wrC y) _ rfl R2.out Try.underlying73 rfl (info73 y) ?_
            go_big_quiet_on
            try simp only [Act.put, List.setIfInBounds_toArray, List.set_cons_zero, List.set_cons_succ]
            repeat (go_big_quiet_step (fail))
            go_big_quiet_want
            refine quiet_load_mid 73 (.tmp 49) rfl g (o + (j + 1) * 2) (wrC x) _ rfl R1.out Try.underlying73 rfl (info73 x) ?_
            go_big_quiet_on
            try simp only [Act.put, List.setIfInBounds_toArray, List.set_cons_zero, List.set_cons_succ]
            repeat (go_big_quiet_step (fail))
            refine wpQuiet_nil ?_
            intro w3 hb3
            have h3 : WsO w3 (.slice (some ⟨g, o, none⟩) l'.length c) l' := H2.out.keep hb3
            obtain ⟨-, t1, -⟩ := h3.at' (j + 1) HJ.out.2
            obtain ⟨h4, f4⟩ := h3.set_ (j + 1) HJ.out.2 y
            have h4' : WsO (w3.setCells g (o + (j + 1) * 2) (wrC y)) (.slice (some ⟨g, o, none⟩) (l'.set (j + 1) y).length c) (l'.set (j + 1) y) := by rw [List.length_set]; exact h4
            have hj' : j < (l'.set (j + 1) y).length := by rw [List.length_set]; exact HJ.out.1
            obtain ⟨-, t2, -⟩ := h4'.at' j hj'
            obtain ⟨h5, f5⟩ := h4'.set_ j hj' x
            have HF3 : Fr (one g) w2 _ := ((Fr.of_below hb3 (one g)).trans f4).trans f5
            clear h3 h4 h4' hj' f4 f5 hb3
            have H5 := Lib.hid h5
            have HF4 := Lib.hid HF3
            clear h5 HF3
            refine wpList_run (.pointer (some ⟨g, o + (j + 1) * 2, none⟩)) w3 rfl (by unfold execOp; go_simp; try (intro hh; exfalso; have := HJ.out; omega)) ?_
            refine wpList_store_mid rfl 73 (.tmp 51) (.tmp 46) rfl g (o + (j + 1) * 2) (wrC y).toArray (by rfl) (by rfl) t1 (info73 y) (one_wr y) ?_
            refine wpList_run (.pointer (some ⟨g, o + j * 2, none⟩)) (w3.setCells g (o + (j + 1) * 2) (wrC y)) rfl (by unfold execOp; go_simp; try (intro hh; exfalso; have := HJ.out; omega)) ?_
            refine wpList_store_mid rfl 73 (.tmp 52) (.tmp 50) rfl g (o + j * 2) (wrC x).toArray (by rfl) (by rfl) t2 (info73 x) (one_wr x) ?_
            refine wpList_nil ?_
            refine NoPan.normal ?_
            try simp only [Act.put, List.setIfInBounds_toArray, List.set_cons_zero, List.set_cons_succ]
            clear t1 t2
            have hz6 : (((j + 1 : Nat) : Int) - 1) = (j : Int) := by omega
            go_wp2_with fail
            go_roundw
            case rel =>
              refine ⟨j, Hp.swapL l' j (j + 1), by omega, by rw [Hp.length_swapL]; exact HLL.out, by go_num, by rw [HI.out, HST.out, if_pos trivial], ?_, HF2.out.trans ((Fr.of_below hb2 _).trans (HF4.out.mono (fun k _ hk => by cases hk; exact hr)))⟩
              have := H5.out
              rw [HSW.out] at this
              rw [List.length_set, HLL.out] at this
              exact this
            case measure => simp [intOf]
    · have hd : decide ((k : Int) < (n : Int)) = false := decide_eq_false (by omega)
      go_wp2_with fail
      go_end0
      refine ⟨rfl, ?_, HF.out⟩
      have : k - 1 = l.length - 1 := by have := HN.out; omega
      unfold isortL
      rw [← this]
      exact HE.out
end Go.Proofs.Ytnlkjhhocehhaaa
