/- The contract of a queue's Push. -/
import Derived.Test.YtkagfnocpllcpaaMeth
namespace Go.Proofs.Ytkagfnocpllcpaa
set_option linter.unusedVariables false
open Go Go.RowKit Go.Proofs
theorem infoE47 : (Try.prog.info? 47).map (fun i => (i.zero, i.size, i.bytes)) = some (some (.agg (entL default).toArray), 5, 56) := by kernel_rfl
theorem wp_run {P : Program} {o : Oper} {a : Act} {w : World} {K : Act → World → Prop} {Q : Exit → Act → World → Prop} (v : Value) (w' : World) (h : (execOp a.eval o).run P w = .ok (.value v) w') (hk : K (a.put o.dst v) w') : o.wp P a w K Q := by
  unfold Oper.wp; rw [h]; exact hk
theorem bs47 (e : E) (W : World) : (Instr.buildSlice 56 1 #[(0, entV e)]).run Try.prog W = .ok (.slice (some ⟨W.heap.size, 0, none⟩) 1 1) (W.alloc (.cells (entL e).toArray 47)) := by
  obtain ⟨e1, e2, e3, e4, e5⟩ := e
  kernel_rfl
theorem exec_bs (e : E) (W : World) (a : Act) (o : Oper) (T : TypeId) (i : Nat) (ho : o.op = .buildSlice T 1 #[(0, .tmp i)]) (hx : a.eval (.tmp i) = entV e)
    (h : (Instr.buildSlice T 1 #[(0, entV e)]).run Try.prog W = .ok (.slice (some ⟨W.heap.size, 0, none⟩) 1 1) (W.alloc (.cells (entL e).toArray 47))) :
    (execOp a.eval o).run Try.prog W = .ok (.value (.slice (some ⟨W.heap.size, 0, none⟩) 1 1)) (W.alloc (.cells (entL e).toArray 47)) := by
  unfold execOp
  rw [ho]
  simp only [List.map_toArray, List.map_cons, List.map_nil, hx, Sem.run_bind, h, Result.andThen_ok, Sem.run_pure]
theorem assert47 (e : E) (w : World) : (Instr.typeAssert (.iface 47 (entV e)) 20 47 true).run Try.prog w = .ok (.tuple #[entV e, .bool true]) w := by kernel_rfl
set_option maxRecDepth 100000 in
set_option maxHeartbeats 1000000 in
theorem push_any (b : Nat) (l : List E) (e : E) (v : Value) (now : Int) (w : World) (hb : Blk w b 58 #[v, .int .i64 now]) (h : Ents w v l) (hl : l.length ≤ 1000) :
    Calls Try.prog 93 #[.pointer (some ⟨b, 0, none⟩), .iface 47 (entV e)] w fun en w' => en = .returned (.tuple #[]) ∧ ∃ v', Blk w' b 58 #[v', .int .i64 now] ∧ Ents w' v' (l ++ [e]) ∧ Fr (foot b v) w w' ∧ ∀ k, rowOf v' k → rowOf v k ∨ w.heap.size ≤ k := by
  obtain ⟨i0, hi0, hz0, hz1, hz2⟩ := info_parts infoE47
  obtain ⟨A, cap, hv, hc, hm⟩ := h.shape
  obtain ⟨n, hn⟩ : ∃ n, n = l.length := ⟨_, rfl⟩
  rw [← hn] at hv hc hl
  subst hv
  have hcell : w.cell? ⟨b, 0, none⟩ = some (.slice A n cap) := hb.cell 0
  have hbl := hb.lt
  have HNE := Lib.hid (show b ≠ w.heap.size by omega)
  have hfz := hb.frozen 0
  have H := Lib.hid h
  have HB := Lib.hid hb
  have HN := Lib.hid hn
  clear hn h hb
  have has := fun w => assert47 e w
  go_enter Try.func93, Try.ntmps93
  go_wp2_with (first
    | (with_reducible refine wpList_alloc_run rfl 47 rfl (entL default).toArray zero47 ?_)
    | (refine wpList_store_blk rfl 47 (.tmp 4) (.tmp 9) rfl w.heap.size 47 (entL default).toArray (entL e).toArray (by rfl) (by rfl) (Blk.new w 47 _) rfl (info47 e) (one_ent e) ?_
       intro w3 hb3 hf3
       have hF3 : Fr nob w w3 := ((Fr.refl nob w).alloc _).then hf3 (fun i hi => Or.inr (by unfold one at hi; omega)))
    | fail)
  have hB3 := HB.out.fr hF3 (fun h => h)
  have hE3 := H.out.fr hF3 (fun _ h => h.elim)
  have hnS : ¬ rowOf (.slice A n cap) b := hE3.blk_ne hB3 (by decide)
  have hnW : ¬ rowOf (.slice A n cap) w.heap.size := by
    intro hk
    have := Own.lt H.out hk
    omega
  have hcell3 : w3.cell? ⟨b, 0, none⟩ = some (.slice A n cap) := hB3.cell 0
  have hbl3 := hB3.lt
  have R := Lib.hid (fun W (hW : ∃ q : Kept (rowOf (.slice A n cap)) w3, W = q.x) => Kept.range (rangeAt_of_blk hb3) hb3.lt hnW W hW)
  have HB3 := Lib.hid hB3
  have HE3 := Lib.hid hE3
  have HF3 := Lib.hid hF3
  clear hB3 hE3 hF3 hb3 hf3 hcell hbl hfz
  refine wp_region_late (rowOf (.slice A n cap)) 5 2 1 (by kernel_rfl) (by kernel_rfl) rfl ?_
  simp only [List.take_succ_cons, List.take_zero, List.drop_succ_cons, List.drop_zero]
  repeat (go_big_quiet_step (fail))
  go_big_quiet_want
  refine quiet_load_mid 47 (.tmp 4) rfl w.heap.size 0 (entL e) _ rfl R.out Try.underlying47 rfl (info47 e) ?_
  go_big_quiet_on
  try simp only [Act.put, List.setIfInBounds_toArray, List.set_cons_zero, List.set_cons_succ]
  refine wpQuiet_nil ?_
  refine wpKeep_step rfl (fun K hK => ?_)
  refine wp_run _ _ (exec_bs e w3.drew _ _ 56 16 (by rfl) (by rfl) (bs47 e _)) ?_
  refine hK _ _ ((Fr.refl _ _).drew.alloc _) ?_
  clear hK
  refine wpKeep_step rfl (fun K2 hK2 => ?_)
  have hO1 : Own (w3.drew.alloc (.cells (entL e).toArray 47)) 47 5 (.slice A n cap) l.length (qC l) := Own.fr HE3.out (((Fr.refl nob _).drew).alloc _) (fun _ h => h.elim)
  have hS1 : Src (w3.drew.alloc (.cells (entL e).toArray 47)) 5 (some ⟨w3.drew.heap.size, 0, none⟩) 1 (entL e) := Src.of_new w3.drew 47 (entL e).toArray 5 rfl
  have hn1 : l.length ≤ 1000 := by rw [← HN.out]; exact hl
  have hone : ∀ u ∈ entL e, u.oneCell' = true := by
    have := qC_one [e]; simpa [qC] using this
  refine wp_append_o _ (.tmp 15) (.tmp 17) 56 (by rfl) 47 i0 (.agg (entL default).toArray) 5 56 Try.underlying56 hi0 hz0 hz1 hz2 (by rfl) (by omega) (.slice A n cap) l.length (qC l) (by rfl) hO1 (some ⟨w3.drew.heap.size, 0, none⟩) 1 1 (entL e) (by rfl) hS1 hone (by simp only [maxLen]; omega) (by omega) ?_
  intro v3 w4 hown4 hf4 hr4
  have hE4 : Ents w4 v3 (l ++ [e]) := by
    unfold Ents
    rw [qC_append, List.length_append]
    simpa [qC] using hown4
  obtain ⟨A4, cap4, rfl, hc5, hc6⟩ := hE4.shape
  have hF34 : Fr (rowOf (.slice A n cap)) w3 w4 := ((Fr.refl _ _).drew.alloc _).trans hf4
  have hB4 := HB3.out.fr hF34 hnS
  have hcell4 : w4.cell? ⟨b, 0, none⟩ = some (.slice A n cap) := hB4.cell 0
  have hfz4 := hB4.frozen 0
  refine hK2 _ _ hF34 ?_
  clear hK2
  refine wpKeep_nil ?_
  have HE4 := Lib.hid hE4
  have HB4 := Lib.hid hB4
  have HF34 := Lib.hid hF34
  have HR4 := Lib.hid hr4
  clear hE4 hB4 hF34 hr4 hf4 hown4 hO1 hS1 hone
  try simp only [Act.put, List.setIfInBounds_toArray, List.set_cons_zero, List.set_cons_succ]
  go_wp2_with fail
  refine NoPan.normal ?_
  go_wp2_with fail
  go_end0
  have hll : (l ++ [e]).length = l.length + 1 := by simp
  have hE := HE4.out
  have hR := HR4.out
  rw [hll] at hE hR
  have hF : Fr (foot b (.slice A n cap)) w (w4.setCell ⟨b, 0, none⟩ (.slice A4 (l.length + 1) cap4)) :=
    ((HF3.out.mono (fun _ _ h => h.elim)).trans (HF34.out.mono (fun _ _ h => .inr h))).setCell' (.inl (.inl rfl)) _
  refine ⟨rfl, _, HB4.out.set_ 0 _, ?_, hF, fun k hk => (hR k hk).elim .inl (fun h => .inr (by have := HF3.out.size; simp at h; omega))⟩
  refine Ents.fr hE ((Fr.refl (one b) w4).setCell' (.inl rfl) _) (fun k hk => ?_)
  unfold one at hk
  subst hk
  exact Own.blk_ne hE HB4.out (by decide)
end Go.Proofs.Ytkagfnocpllcpaa
