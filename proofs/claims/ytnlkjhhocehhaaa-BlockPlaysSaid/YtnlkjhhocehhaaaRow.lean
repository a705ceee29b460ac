/- Writes in their row: Clone, SortStableFunc, row. -/
import Derived.Test.YtnlkjhhocehhaaaWsort
namespace Go.Proofs.Ytnlkjhhocehhaaa
set_option linter.unusedVariables false
open Go Go.RowKit Go.Proofs
theorem wsort_none (v : Value) (k : Nat) (hk : k ≤ 1000) (w : World) : Calls Try.prog 104 #[v, .int .i64 (k : Int), .int .i64 (k : Int), cmpV] w fun e w' => e = .returned (.tuple #[]) ∧ w = w' := by
  have hd : decide ((k : Int) + 1 < (k : Int)) = false := decide_eq_false (by omega)
  go_enter Try.func104, Try.ntmps104
  go_wp2_with fail
  go_loopw [8, 9] (fun c8 _ wr => c8 = .int .i64 ((k : Int) + 1) ∧ wr = w) (fun _ _ _ => 0)
  case atStart => exact ⟨rfl, rfl⟩
  case round =>
    obtain ⟨rfl, rfl⟩ := hrel
    go_wp2_with fail
    go_end0
    exact ⟨rfl, rfl⟩
set_option maxRecDepth 100000 in
set_option maxHeartbeats 2000000 in
theorem stable_any (l : List Wr) (v : Value) (w : World) (h : WsO w v l) (hl : l.length ≤ 20) :
    Calls Try.prog 102 #[v, .int .i64 (l.length : Int), cmpV] w fun e w' => e = .returned (.tuple #[]) ∧ WsO w' v (isortL l) ∧ Fr (rowOf v) w w' := by
  have HS := Lib.hid (wsort_any l v w h (by omega))
  obtain ⟨A, c, hv, -, -⟩ := h.shape
  obtain ⟨n, hn⟩ : ∃ n, n = l.length := ⟨_, rfl⟩
  rw [← hn] at HS hl hv ⊢
  subst hv
  have hd2 : decide ((20 : Int) < (n : Int)) = false := decide_eq_false (by omega)
  have hn0 : (0 : Int) ≤ (n : Int) := by omega
  clear h hn
  by_cases h20 : n = 20
  · have hd : decide ((20 : Int) ≤ (n : Int)) = true := decide_eq_true (by omega)
    have hd4 : decide ((40 : Int) ≤ (n : Int)) = false := decide_eq_false (by omega)
    have HN : Hid (∀ v w, Calls Try.prog 104 #[v, .int .i64 20, .int .i64 (n : Int), cmpV] w fun e w' => e = .returned (.tuple #[]) ∧ w = w') := Lib.hid (fun v w => by rw [h20]; exact wsort_none v 20 (by omega) w)
    have HS2 : Hid (Calls Try.prog 104 #[.slice A n c, .int .i64 0, .int .i64 20, cmpV] w fun e w' => e = .returned (.tuple #[]) ∧ WsO w' (.slice A n c) (isortL l) ∧ Fr (rowOf (.slice A n c)) w w') := Lib.hid (by have := HS.out; rw [show ((n : Nat) : Int) = 20 by omega] at this; exact this)
    clear h20
    go_enter Try.func102, Try.ntmps102
    go_wp2_with fail
    go_loopw [7, 8] (fun c7 c8 wr => ∃ (a b : Int), c7 = .int .i64 a ∧ c8 = .int .i64 b ∧ ((a = 0 ∧ b = 20 ∧ wr = w) ∨ (a = 20 ∧ b = 40 ∧ WsO wr (.slice A n c) (isortL l) ∧ Fr (rowOf (.slice A n c)) w wr))) (fun _ c8 _ => 50 - (intOf c8).toNat)
    case atStart => exact ⟨0, 20, rfl, rfl, .inl ⟨rfl, rfl, rfl⟩⟩
    case round =>
      obtain ⟨a, b, rfl, rfl, hcase⟩ := hrel
      rcases hcase with ⟨rfl, rfl, rfl⟩ | ⟨rfl, rfl, hE, hF⟩
      · go_wp2_with (first
          | (go_at_call 104
             refine HS2.out.mono ?_
             rintro e w2 ⟨rfl, hE, hF⟩)
          | fail)
        go_roundw
        case rel => exact ⟨20, 40, by go_num, by go_num, .inr ⟨rfl, rfl, hE, hF⟩⟩
        case measure => simp [intOf]
      · go_wp2_with (first
          | (go_at_call 104
             refine (HN.out _ _).mono ?_
             rintro e w2 ⟨rfl, rfl⟩)
          | fail)
        go_loopw [6, 7, 8, 9] (fun c6 _ _ _ wx => c6 = .int .i64 20 ∧ wx = wr) (fun _ _ _ _ _ => 0)
        case atStart => exact ⟨rfl, rfl⟩
        case round =>
          obtain ⟨rfl, rfl⟩ := hrel
          go_wp2_with fail
          go_end0
          exact ⟨rfl, hE, hF⟩
  · have hd : decide ((20 : Int) ≤ (n : Int)) = false := decide_eq_false (by omega)
    go_enter Try.func102, Try.ntmps102
    go_wp2_with fail
    go_loopw [7, 8] (fun c7 c8 wr => c7 = .int .i64 0 ∧ c8 = .int .i64 20 ∧ wr = w) (fun _ _ _ => 0)
    case atStart => exact ⟨rfl, rfl, rfl⟩
    case round =>
      obtain ⟨rfl, rfl, rfl⟩ := hrel
      go_wp2_with (first
        | (go_at_call 104
           refine HS.out.mono ?_
           rintro e w2 ⟨rfl, hE, hF⟩)
        | fail)
      go_loopw [6, 7, 8, 9] (fun c6 _ _ _ wx => c6 = .int .i64 20 ∧ wx = w2) (fun _ _ _ _ _ => 0)
      case atStart => exact ⟨rfl, rfl⟩
      case round =>
        obtain ⟨rfl, rfl⟩ := hrel
        go_wp2_with fail
        go_end0
        exact ⟨rfl, hE, hF⟩
theorem sortStable_any (l : List Wr) (v : Value) (w : World) (h : WsO w v l) (hl : l.length ≤ 20) :
    Calls Try.prog 96 #[v, cmpV] w fun e w' => e = .returned (.tuple #[]) ∧ WsO w' v (isortL l) ∧ Fr (rowOf v) w w' := by
  have HS := Lib.hid (stable_any l v w h hl)
  obtain ⟨A, c, hv, -, -⟩ := h.shape
  obtain ⟨n, hn⟩ : ∃ n, n = l.length := ⟨_, rfl⟩
  rw [← hn] at HS hv
  subst hv
  clear h hn
  go_enter Try.func96, Try.ntmps96
  go_wp2_with (first
    | (go_at_call 102
       refine HS.out.mono ?_
       rintro e w2 ⟨rfl, hE, hF⟩)
    | fail)
  go_end0
  exact ⟨rfl, hE, hF⟩
/-- A row of writes that may have come in: only read. -/
def WsR (w : World) (A : Option Addr) (m c : Nat) (l : List Wr) : Prop := m = l.length ∧ m ≤ c ∧ c ≤ maxLen ∧ (A = none → c = 0) ∧ Src w 2 A m (wsC l)
theorem info73s : (Try.prog.info? 73).map (fun i => (i.zero, i.size, i.bytes)) = some (some (.agg (wrC default).toArray), 2, 32) := by kernel_rfl
theorem wsC_one (l : List Wr) : ∀ u ∈ wsC l, u.oneCell' = true := by
  intro u hu
  obtain ⟨e, _, h⟩ := List.mem_flatMap.1 hu
  simp only [wrC, List.mem_cons, List.not_mem_nil, or_false] at h
  rcases h with rfl | rfl <;> rfl
theorem bs62 (W : World) : (Instr.buildSlice 62 0 #[]).run Try.prog W = .ok (.slice (some ⟨W.heap.size, 0, none⟩) 0 0) (W.alloc (.cells #[] 73)) := by kernel_rfl
set_option maxRecDepth 100000 in
set_option maxHeartbeats 1000000 in
theorem cloneW_any (A : Option Addr) (m c : Nat) (l : List Wr) (w : World) (h : WsR w A m c l) (hl : l.length ≤ 1000) :
    Calls Try.prog 95 #[.slice A m c] w fun e w' => ∃ v, e = .returned v ∧ WsO w' v l ∧ (∀ j, rowOf v j → w.heap.size ≤ j) ∧ Below w.heap.size w w' := by
  obtain ⟨i0, hi0, hz0, hz1, hz2⟩ : ∃ i, Try.prog.info? 73 = some i ∧ i.zero = some (.agg (wrC default).toArray) ∧ i.size = 2 ∧ i.bytes = 32 := by
    have := info73s
    cases hi : Try.prog.info? 73 with
    | none => rw [hi] at this; cases this
    | some i =>
      rw [hi] at this
      simp only [Option.map_some, Option.some.injEq, Prod.mk.injEq] at this
      exact ⟨i, rfl, this.1, this.2.1, this.2.2⟩
  obtain ⟨hm, hmc, hcm, hA, hs⟩ := h
  cases A with
  | none =>
    obtain rfl : c = 0 := hA rfl
    obtain rfl : m = 0 := by omega
    have : l = [] := List.eq_nil_of_length_eq_zero hm.symm
    subst this
    clear hA hs hmc hcm hm hi0 hz0 hz1 hz2
    have hnn := fun (W : World) => Lib.run_eql_slice_nil (P := Try.prog) W 62 73 none 0 0 0 0 Try.underlying62
    go_enter Try.func95, Try.ntmps95
    go_wp2_with fail
    go_ret
    exact ⟨_, rfl, Own.nil _ _ _, (fun j hj => by cases hj), Below.refl _ _⟩
  | some a =>
    have hB := (Below.refl w.heap.size w).alloc (Nat.le_refl _) (.cells #[] 73)
    have hS : Src (w.alloc (.cells #[] 73)) 2 (some a) m (wsC l) := Src.fr hs ((Fr.refl nob w).alloc _) (fun _ _ _ _ h => h)
    have hO : Own (w.alloc (.cells #[] 73)) 73 2 (.slice (some ⟨w.heap.size, 0, none⟩) 0 0) 0 [] := ⟨rfl, .inr ⟨w.heap.size, 0, 0, #[], rfl, Blk.new w 73 _, Nat.le_refl _, by unfold maxLen; omega, by simp, fun j u hj => by simp at hj⟩⟩
    have HS := Lib.hid hS
    have HO := Lib.hid hO
    have HB := Lib.hid hB
    have hm' : m ≤ 1000 := by omega
    have HM := Lib.hid hm
    clear hS hO hB hs hm
    have hne := fun (W : World) => Lib.run_eql_slice_nil (P := Try.prog) W 62 73 (some a) m c 0 0 Try.underlying62
    go_enter Try.func95, Try.ntmps95
    go_wp2_with (first
      | (with_reducible refine wpList_run _ _ rfl (by unfold execOp; simp only [List.map_toArray, List.map_nil, Sem.run_bind, bs62, Result.andThen_ok, Sem.run_pure]) ?_)
      | (at_builtin
         (refine wpList_append_o _ rfl (.tmp 5) (.tmp 6) 62 rfl 73 i0 (.agg (wrC default).toArray) 2 32 Try.underlying62 hi0 hz0 hz1 hz2 (by rfl) (by omega) (.slice (some ⟨w.heap.size, 0, none⟩) 0 0) 0 [] (by rfl) HO.out (some a) m c (wsC l) (by rfl) HS.out (wsC_one l) (by simp only [maxLen]; omega) (by omega) ?_)
         intro v5 w5 hown5 hf5 hr5
         simp only [Act.put, List.setIfInBounds_toArray, List.set_cons_zero, List.set_cons_succ])
      | fail)
    go_ret
    rw [Nat.zero_add, List.nil_append] at hown5
    refine ⟨_, rfl, by unfold WsO; rw [← HM.out]; exact hown5, fun j hj => (hr5 j hj).elim (fun h => by cases h; exact Nat.le_refl _) (fun h => by simp at h; omega), HB.out.trans (hf5.below HB.out.size (fun k hk => by cases hk; exact Nat.le_refl _))⟩
set_option maxRecDepth 100000 in
set_option maxHeartbeats 1000000 in
theorem row_any (A : Option Addr) (m c : Nat) (l : List Wr) (w : World) (h : WsR w A m c l) (hl : l.length ≤ 20) :
    Calls Try.prog 83 #[.slice A m c] w fun e w' => ∃ v, e = .returned v ∧ WsO w' v (isortL l) ∧ (∀ j, rowOf v j → w.heap.size ≤ j) ∧ Below w.heap.size w w' := by
  have HC := Lib.hid (cloneW_any A m c l w h (by omega))
  clear h
  go_enter Try.func83, Try.ntmps83
  go_wp2_with (first
    | (go_at_call 95
       refine HC.out.mono ?_
       rintro e w2 ⟨v2, rfl, hE2, hr2, hb2⟩
       have HS := Lib.hid (sortStable_any l v2 w2 hE2 hl)
       obtain ⟨A2, c2, hv2, -, -⟩ := hE2.shape
       subst hv2)
    | (go_at_call 96
       refine HS.out.mono ?_
       rintro e w3 ⟨rfl, hE3, hF3⟩)
    | fail)
  go_ret
  exact ⟨_, rfl, hE3, hr2, hb2.trans (hF3.below hb2.size hr2)⟩
end Go.Proofs.Ytnlkjhhocehhaaa
