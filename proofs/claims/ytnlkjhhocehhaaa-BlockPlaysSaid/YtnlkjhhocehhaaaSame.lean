/- Same: two rows of byte slices that are the same. -/
import Derived.Test.YtnlkjhhocehhaaaRec
import Derived.Test.YtnlkjhhocehhaaaBack
import Derived.BigQuiet
namespace Go.Proofs.Ytnlkjhhocehhaaa
set_option linter.unusedVariables false
open Go Go.RowKit Go.Proofs Sha Go.BigFrame
theorem quiet_conv {P : Program} {C : World → Prop} {K : Act → Prop} {a : Act} {o : Oper} (f t : TypeId) (x : Operand) (ho : o.op = .convert f t x) (v r : Value) (hx : a.eval x = v) (hr : ∀ W, C W → (convert f t v).run P W = .ok r W) (hk : K (a.put o.dst r)) : o.quiet P a C K := by
  refine ⟨r, fun w hw => ?_, hk⟩
  unfold Oper.quietAt execOp
  simp only [ho, hx, hr w hw, Sem.run_bind, Sem.run_pure, Result.andThen_ok]
  exact ⟨rfl, rfl⟩
theorem bytes_drewN {w : World} {A : Option Addr} {l : List UInt8} (h : Bytes w A l) (n : Nat) : Bytes (w.drewN n) A l := h
set_option maxRecDepth 100000 in
set_option maxHeartbeats 2000000 in
theorem same_any (l : List (List UInt8)) (v u : Value) (w : World) (h : Ls w v l) (h' : Ls w u l) (hn : l.length ≤ 1000000) :
    Calls Try.prog 47 #[v, u] w fun e w' => e = .returned (.bool true) ∧ Below w.heap.size w w' := by
  obtain ⟨A, c, hv, -, -⟩ := h.shape
  obtain ⟨B, d, hu, -, -⟩ := h'.shape
  have H := Lib.hid h
  have H' := Lib.hid h'
  clear h h'
  obtain ⟨n, hnl⟩ : ∃ n, n = l.length := ⟨_, rfl⟩
  have HN := Lib.hid hnl
  have HV := Lib.hid hv
  have HU := Lib.hid hu
  rw [hv, hu]
  rw [← hnl] at hn ⊢
  clear hv hu hnl
  go_enter Try.func47, Try.ntmps47
  go_wp2_with fail
  go_loopw [5] (fun c5 wr => ∃ i : Nat, i ≤ n ∧ c5 = .int .i64 (i : Int) ∧ Below w.heap.size w wr) (fun c5 _ => n - (intOf c5).toNat)
  case atStart => exact ⟨0, by omega, rfl, Below.refl _ _⟩
  case round =>
    obtain ⟨i, hi, rfl, hb⟩ := hrel
    have HB := Lib.hid hb
    clear hb
    by_cases hin : i < n
    · have hd : decide ((i : Int) < (n : Int)) = true := decide_eq_true (by omega)
      obtain ⟨g1, o1, c1, A1, d1, e1, hg1, hc1, hb1, -, -, -⟩ := (H.out.keep HB.out).at_ i (by have := HN.out; omega)
      obtain ⟨g2, o2, c2, A2, d2, e2, hg2, hc2, hb2, -, -, -⟩ := (H'.out.keep HB.out).at_ i (by have := HN.out; omega)
      rw [HV.out] at e1
      rw [HU.out] at e2
      injection e1 with e1 _ f1
      injection e2 with e2 _ f2
      subst e1 e2 f1 f2
      obtain ⟨x, hx⟩ : ∃ x, x = l.getD i [] := ⟨_, rfl⟩
      rw [← hx] at hc1 hb1 hc2 hb2
      have R1 : Hid (∀ W, (∃ n, W = wr.drewN n) → (convert 22 9 (.slice A1 x.length d1)).run Try.prog W = .ok (.string ⟨x.toArray⟩) W) := Lib.hid (fun W hW => by obtain ⟨q, rfl⟩ := hW; exact back_text _ _ _ _ x rfl (bytes_drewN hb1 q))
      have R2 : Hid (∀ W, (∃ n, W = wr.drewN n) → (convert 22 9 (.slice A2 x.length d2)).run Try.prog W = .ok (.string ⟨x.toArray⟩) W) := Lib.hid (fun W hW => by obtain ⟨q, rfl⟩ := hW; exact back_text _ _ _ _ x rfl (bytes_drewN hb2 q))
      have hi0 : (0 : Int) ≤ (i : Int) := by omega
      have hini : (i : Int) < (n : Int) := by omega
      clear hx hb1 hb2
      go_wp2_with fail
      refine wp_region_quiet_lit (by kernel_rfl) (by kernel_rfl) ?_
      repeat (go_big_quiet_step (fail))
      go_big_quiet_want
      refine quiet_conv 22 9 (.tmp 20) rfl _ _ rfl R1.out ?_
      go_big_quiet_on
      try simp only [Act.put, List.setIfInBounds_toArray, List.set_cons_zero, List.set_cons_succ]
      repeat (go_big_quiet_step (fail))
      go_big_quiet_want
      refine quiet_conv 22 9 (.tmp 25) rfl _ _ rfl R2.out ?_
      go_big_quiet_on
      try simp only [Act.put, List.setIfInBounds_toArray, List.set_cons_zero, List.set_cons_succ]
      repeat (go_big_quiet_step (fail))
      refine wpQuiet_nil ?_
      intro w2 hw2
      obtain ⟨q, hw2⟩ := hw2
      have hb2 : Below wr.heap.size wr w2 := by rw [hw2]; exact ⟨rfl, rfl, rfl, Nat.le_refl _, fun _ _ => rfl⟩
      clear hw2
      go_wp2_with fail
      go_roundw
      case rel => exact ⟨i + 1, by omega, by go_num, HB.out.trans (hb2.mono HB.out.size)⟩
      case measure => simp [intOf]; omega
    · obtain rfl : i = n := by omega
      have hd : decide ((i : Int) < (i : Int)) = false := decide_eq_false (by omega)
      go_wp2_with fail
      go_ret
      exact ⟨rfl, HB.out⟩
end Go.Proofs.Ytnlkjhhocehhaaa
