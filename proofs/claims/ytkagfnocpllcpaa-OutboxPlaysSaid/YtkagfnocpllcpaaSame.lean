/- Same: two rows of the same entries are the same. -/
import Derived.Test.YtkagfnocpllcpaaAs
import Derived.Laws.StructEq
namespace Go.Proofs.Ytkagfnocpllcpaa
set_option linter.unusedVariables false
open Go Go.RowKit Go.Proofs
theorem eqf_str (d : Nat) (f : Field) (fs : List Field) (xs : Array Value) (s : ByteArray) (w : World) (hx : (part f.type xs f.offset).run Try.prog w = .ok (.string s) w) (hu : Try.prog.underlying f.type = some .string)
    (h : (Op.eqFields (d + 1) xs xs fs).run Try.prog w = .ok true w) : (Op.eqFields (d + 1) xs xs (f :: fs)).run Try.prog w = .ok true w := by
  simp only [Op.eqFields, Sem.run_bind, Sem.run_ite, hx, Result.andThen_ok, run_equalIn_string w d f.type s s hu, BEq.rfl, Bool.not_true, Bool.false_eq_true, if_false, h, ite_self]
theorem eqf_int (d : Nat) (f : Field) (fs : List Field) (xs : Array Value) (z : Int) (w : World) (hx : (part f.type xs f.offset).run Try.prog w = .ok (.int .i64 z) w) (hu : Try.prog.underlying f.type = some (.int .i64))
    (h : (Op.eqFields (d + 1) xs xs fs).run Try.prog w = .ok true w) : (Op.eqFields (d + 1) xs xs (f :: fs)).run Try.prog w = .ok true w := by
  simp only [Op.eqFields, Sem.run_bind, Sem.run_ite, hx, Result.andThen_ok, run_equalIn_int w d f.type .i64 .i64 z z hu, BEq.rfl, Bool.not_true, Bool.false_eq_true, if_false, h, ite_self]
theorem eq54 (e : E) (w : World) : (Op.equalIn 10000 54 (entV e) (entV e)).run Try.prog w = .ok true w := by
  obtain ⟨e1, e2, e3, e4, e5⟩ := e
  obtain ⟨f0, f1, f2, f3, f4, hf⟩ : ∃ f0 f1 f2 f3 f4 : Field, Try.prog.fieldsOf 54 = #[f0, f1, f2, f3, f4] ∧ f0.type = 9 ∧ f0.offset = 0 ∧ f1.type = 9 ∧ f1.offset = 1 ∧ f2.type = 3 ∧ f2.offset = 2 ∧ f3.type = 3 ∧ f3.offset = 3 ∧ f4.type = 3 ∧ f4.offset = 4 :=
    ⟨(Try.prog.fieldsOf 54).toList.getD 0 ⟨ "", 0, 0, false, "", "", 0⟩, (Try.prog.fieldsOf 54).toList.getD 1 ⟨ "", 0, 0, false, "", "", 0⟩, (Try.prog.fieldsOf 54).toList.getD 2 ⟨ "", 0, 0, false, "", "", 0⟩, (Try.prog.fieldsOf 54).toList.getD 3 ⟨ "", 0, 0, false, "", "", 0⟩, (Try.prog.fieldsOf 54).toList.getD 4 ⟨ "", 0, 0, false, "", "", 0⟩, by kernel_rfl, by kernel_rfl, by kernel_rfl, by kernel_rfl, by kernel_rfl, by kernel_rfl, by kernel_rfl, by kernel_rfl, by kernel_rfl, by kernel_rfl, by kernel_rfl⟩
  obtain ⟨h, a0, b0, a1, b1, a2, b2, a3, b3, a4, b4⟩ := hf
  rw [run_equalIn_agg w 9999 54 _ _ (by kernel_rfl) (by kernel_rfl), h]
  show (Op.eqFields (9998 + 1) _ _ [f0, f1, f2, f3, f4]).run Try.prog w = _
  refine eqf_str _ _ _ _ e1 _ (by rw [a0, b0]; kernel_rfl) (by rw [a0]; exact Try.underlying9) ?_
  refine eqf_str _ _ _ _ e2 _ (by rw [a1, b1]; kernel_rfl) (by rw [a1]; exact Try.underlying9) ?_
  refine eqf_int _ _ _ _ e3 _ (by rw [a2, b2]; kernel_rfl) (by rw [a2]; exact Try.underlying3) ?_
  refine eqf_int _ _ _ _ e4 _ (by rw [a3, b3]; kernel_rfl) (by rw [a3]; exact Try.underlying3) ?_
  refine eqf_int _ _ _ _ e5 _ (by rw [a4, b4]; kernel_rfl) (by rw [a4]; exact Try.underlying3) ?_
  simp [Op.eqFields]
theorem info54 (e : E) : (Try.prog.info? 54).map (·.size) = some (entL e).length := by rw [length_entL]; kernel_rfl
set_option maxRecDepth 100000 in
set_option maxHeartbeats 2000000 in
theorem same_any (l : List E) (v v' : Value) (w : World) (h : EntsR w v l) (h' : EntsR w v' l) (hl : l.length ≤ 100) :
    Calls Try.prog 21 #[v, v'] w fun e w' => e = .returned (.bool true) ∧ Below w.heap.size w w' := by
  obtain ⟨A, cap, hv, hc1, hc2⟩ := h.shape
  obtain ⟨A', cap', hv', hc1', hc2'⟩ := h'.shape
  obtain ⟨n, hn⟩ : ∃ n, n = l.length := ⟨_, rfl⟩
  rw [← hn] at hv hc1 hl hv' hc1'
  subst hv hv'
  have H := Lib.hid h
  have H' := Lib.hid h'
  have HN := Lib.hid hn
  clear h h' hn
  go_enter Try.func21, Try.ntmps21
  go_wp2_with fail
  go_loopw [5] (fun c5 wr => ∃ k : Nat, k ≤ n ∧ c5 = .int .i64 (k : Int) ∧ Below w.heap.size w wr) (fun c5 _ => n - (intOf c5).toNat)
  case atStart => exact ⟨0, by omega, rfl, Below.refl _ _⟩
  case round =>
    obtain ⟨k, hk, rfl, hB⟩ := hrel
    by_cases hkl : k < n
    · have hd : decide ((k : Int) < (n : Int)) = true := decide_eq_true (by omega)
      obtain ⟨g, o, cp, hv, _, hg, hr⟩ := (H.out.at_ k (by rw [← HN.out]; exact hkl))
      obtain ⟨g', o', cp', hv', _, hg', hr'⟩ := (H'.out.at_ k (by rw [← HN.out]; exact hkl))
      simp only [Value.slice.injEq] at hv hv'
      obtain ⟨rfl, -, rfl⟩ := hv
      obtain ⟨rfl, -, rfl⟩ := hv'
      have hr1 : wr.rangeAt g (o + k * 5) (entL (l.getD k default)) := rangeAt_below hr hB hg
      have hr2 : wr.rangeAt g' (o' + k * 5) (entL (l.getD k default)) := rangeAt_below hr' hB hg'
      obtain ⟨x, hx⟩ : ∃ x, x = l.getD k default := ⟨_, rfl⟩
      rw [← hx] at hr1 hr2
      have R1 := Lib.hid (Regrown.range hr1 (Nat.lt_of_lt_of_le hg hB.size))
      have R2 := Lib.hid (Regrown.range hr2 (Nat.lt_of_lt_of_le hg' hB.size))
      have he := fun w => eq54 x w
      have h0 : (0 : Int) ≤ (k : Int) := by omega
      have HB := Lib.hid hB
      clear hx hr hr' hr1 hr2 hB
      go_wp2_with fail
      refine wp_region_quiet_below (by kernel_rfl) (by kernel_rfl) ?_
      repeat (go_big_quiet_step (fail))
      go_big_quiet_want
      refine quiet_load_mid 54 (.tmp 19) rfl g (o + k * 5) (entL x) _ rfl R1.out Try.underlying54 rfl (info54 x) ?_
      go_big_quiet_on
      try simp only [Act.put, List.setIfInBounds_toArray, List.set_cons_zero, List.set_cons_succ]
      repeat (go_big_quiet_step (fail))
      go_big_quiet_want
      refine quiet_load_mid 54 (.tmp 23) rfl g' (o' + k * 5) (entL x) _ rfl R2.out Try.underlying54 rfl (info54 x) ?_
      go_big_quiet_on
      try simp only [Act.put, List.setIfInBounds_toArray, List.set_cons_zero, List.set_cons_succ]
      repeat (go_big_quiet_step (fail))
      refine wpQuiet_nil ?_
      intro w2 hw2
      have hb2 := Re.below hw2
      clear hw2
      go_wp2_with fail
      go_roundw
      case rel => exact ⟨k + 1, by omega, by go_num, HB.out.trans (hb2.mono HB.out.size)⟩
      case measure => simp [intOf]; omega
    · obtain rfl : k = n := by omega
      have hd : decide ((k : Int) < (k : Int)) = false := decide_eq_false (by omega)
      go_wp2_with fail
      go_ret
      exact ⟨rfl, hB⟩
end Go.Proofs.Ytkagfnocpllcpaa
