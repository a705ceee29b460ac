/- Entries as the document has them: as, Same. -/
import Derived.Test.YtkagfnocpllcpaaEarly
import Derived.Test.YtkagfnocpllcpaaRefLaw
namespace Go.Proofs.Ytkagfnocpllcpaa
set_option linter.unusedVariables false
open Go Go.RowKit Go.Proofs
/-- A row of the document's entries. -/
def EntsR (w : World) (v : Value) (l : List E) : Prop := Own w 54 5 v l.length (qC l)
theorem EntsR.nil (w : World) : EntsR w (.slice none 0 0) [] := Own.nil w 54 5
theorem EntsR.shape {w : World} {v : Value} {l : List E} (h : EntsR w v l) : ∃ A cap, v = .slice A l.length cap ∧ l.length ≤ cap ∧ cap ≤ maxLen := Own.shape h
theorem EntsR.keep {w w' : World} {v : Value} {l : List E} (h : EntsR w v l) (hb : Below w.heap.size w w') : EntsR w' v l := Own.fr h (Fr.of_below hb nob) (fun _ h => h.elim)
theorem EntsR.at_ {w : World} {v : Value} {l : List E} (h : EntsR w v l) (i : Nat) (hi : i < l.length) : ∃ g o cap, v = .slice (some ⟨g, o, none⟩) l.length cap ∧ rowOf v g ∧ g < w.heap.size ∧ w.rangeAt g (o + i * 5) (entL (l.getD i default)) := by
  rcases h.2 with ⟨_, h0⟩ | ⟨g, o, cap, cur, rfl, hb, hc, hm, hfit, hx⟩
  · omega
  · refine ⟨g, o, cap, rfl, rfl, hb.lt, fun j u hj => ?_⟩
    have hj5 : j < 5 := by have := (List.getElem?_eq_some_iff.1 hj).1; rw [length_entL] at this; exact this
    rw [hb.cell, Nat.add_assoc]
    refine hx (i * 5 + j) u ?_
    rw [qC_get l i j hi hj5]; exact hj
theorem EntsR.snoc {w : World} {v : Value} {l : List E} {x : E} (h : Own w 54 5 v (l.length + 1) (qC l ++ entL x)) : EntsR w v (l ++ [x]) := by
  unfold EntsR
  rw [qC_append, List.length_append]
  simpa [qC] using h
theorem infoE54 : (Try.prog.info? 54).map (fun i => (i.zero, i.size, i.bytes)) = some (some (.agg (entL default).toArray), 5, 56) := by kernel_rfl
theorem bs41 (e : E) (W : World) : (Instr.buildSlice 41 1 #[(0, entV e)]).run Try.prog W = .ok (.slice (some ⟨W.heap.size, 0, none⟩) 1 1) (W.alloc (.cells (entL e).toArray 54)) := by
  obtain ⟨e1, e2, e3, e4, e5⟩ := e
  kernel_rfl
theorem exec_bs41 (e : E) (W : World) (a : Act) (o : Oper) (i : Nat) (ho : o.op = .buildSlice 41 1 #[(0, .tmp i)]) (hx : a.eval (.tmp i) = entV e) :
    (execOp a.eval o).run Try.prog W = .ok (.value (.slice (some ⟨W.heap.size, 0, none⟩) 1 1)) (W.alloc (.cells (entL e).toArray 54)) := by
  unfold execOp
  rw [ho]
  simp only [List.map_toArray, List.map_cons, List.map_nil, hx, Sem.run_bind, bs41, Result.andThen_ok, Sem.run_pure]
theorem build54 (e : E) (W : World) : (Instr.build 54 #[(0, .string e.id), (1, .string e.body), (2, .int .i64 e.due), (3, .int .i64 e.tries), (4, .int .i64 e.put)]).run Try.prog W = .ok (entV e) W := by
  obtain ⟨e1, e2, e3, e4, e5⟩ := e
  kernel_rfl
theorem exec_build54 (e : E) (W : World) (a : Act) (o : Oper) (i0 i1 i2 i3 i4 : Nat) (ho : o.op = .build 54 #[(0, .tmp i0), (1, .tmp i1), (2, .tmp i2), (3, .tmp i3), (4, .tmp i4)])
    (h0 : a.eval (.tmp i0) = .string e.id) (h1 : a.eval (.tmp i1) = .string e.body) (h2 : a.eval (.tmp i2) = .int .i64 e.due) (h3 : a.eval (.tmp i3) = .int .i64 e.tries) (h4 : a.eval (.tmp i4) = .int .i64 e.put) :
    (execOp a.eval o).run Try.prog W = .ok (.value (entV e)) W := by
  unfold execOp
  rw [ho]
  simp only [List.map_toArray, List.map_cons, List.map_nil, h0, h1, h2, h3, h4, Sem.run_bind, build54, Result.andThen_ok, Sem.run_pure]
set_option maxRecDepth 100000 in
set_option maxHeartbeats 2000000 in
theorem as_any (l : List E) (v : Value) (w : World) (h : Ents w v l) (hl : l.length ≤ 100) :
    Calls Try.prog 19 #[v] w fun e w' => ∃ v', e = .returned v' ∧ EntsR w' v' l ∧ (∀ k, rowOf v' k → w.heap.size ≤ k) ∧ Below w.heap.size w w' := by
  obtain ⟨i0, hi0, hz0, hz1, hz2⟩ := info_parts infoE54
  obtain ⟨A, cap, hv, hc1, hc2⟩ := h.shape
  obtain ⟨n, hn⟩ : ∃ n, n = l.length := ⟨_, rfl⟩
  rw [← hn] at hv hc1 hl
  subst hv
  have H := Lib.hid h
  have HN := Lib.hid hn
  clear h hn
  go_enter Try.func19, Try.ntmps19
  go_wp2_with fail
  go_loopw [3, 4] (fun c3 c4 wr => ∃ k : Nat, k ≤ n ∧ c4 = .int .i64 (k : Int) ∧ EntsR wr c3 (l.take k) ∧ (∀ j, rowOf c3 j → w.heap.size ≤ j) ∧ Below w.heap.size w wr) (fun _ c4 _ => n - (intOf c4).toNat)
  case atStart => exact ⟨0, by omega, rfl, EntsR.nil _, (fun j hj => by cases hj), Below.refl _ _⟩
  case round =>
    obtain ⟨k, hk, rfl, hE, hR, hB⟩ := hrel
    by_cases hkl : k < n
    · have hd : decide ((k : Int) < (n : Int)) = true := decide_eq_true (by omega)
      obtain ⟨g, o, cap', hv, _, hg, hr, _⟩ := H.out.at_ k (by rw [← HN.out]; exact hkl)
      simp only [Value.slice.injEq] at hv
      obtain ⟨rfl, -, rfl⟩ := hv
      have hts := take_snoc l k (by rw [← HN.out]; exact hkl)
      have hlt : (l.take k).length = k := by rw [List.length_take, ← HN.out]; omega
      obtain ⟨x, hx⟩ : ∃ x, x = l.getD k default := ⟨_, rfl⟩
      rw [← hx] at hr hts
      obtain ⟨lk, hlk⟩ : ∃ lk, lk = l.take k := ⟨_, rfl⟩
      rw [← hlk] at hE hts hlt
      have HTS := Lib.hid hts
      have HLT := Lib.hid hlt
      have HR := Lib.hid hR
      have HE := Lib.hid hE
      have hrr : wr.rangeAt g (o + k * 5) (entL x) := rangeAt_below hr hB hg
      have hgr : g < wr.heap.size := Nat.lt_of_lt_of_le hg hB.size
      have h0k : (0 : Int) ≤ (k : Int) := by omega
      clear hx hts hlt hlk hR hE hr
      obtain ⟨wo, rfl⟩ : ∃ wo : World, wo = wr := ⟨_, rfl⟩
      go_wp2_with fail
      have hc0 : wo.cell? ⟨g, o + k * 5, none⟩ = some (.string x.id) := hrr 0 _ rfl
      have hc1 : wo.cell? ⟨g, o + k * 5 + 1, none⟩ = some (.string x.body) := hrr 1 _ rfl
      have hc2 : wo.cell? ⟨g, o + k * 5 + 2, none⟩ = some (.int .i64 x.due) := hrr 2 _ rfl
      have hc3 : wo.cell? ⟨g, o + k * 5 + 3, none⟩ = some (.int .i64 x.tries) := hrr 3 _ rfl
      have hc4 : wo.cell? ⟨g, o + k * 5 + 4, none⟩ = some (.int .i64 x.put) := hrr 4 _ rfl
      have HB := Lib.hid hB
      clear hB hrr
      refine wp_region_pure [0, 1, 2, 3, 4, 6, 7, 8, 9, 11, 12, 13, 14, 16, 17, 18, 19, 21, 22, 23, 24] [5, 10, 15, 20, 25] 26 [27, 28, 29] (by kernel_rfl) (by kernel_rfl) ?_
      simp only [pick, List.filterMap_cons, List.filterMap_nil, List.getElem?_toArray, List.getElem?_cons_succ, List.getElem?_cons_zero]
      show wpQuiet _ _ _ _ [_, _, _, _, _, _, _, _, _, _, _, _, _, _, _, _, _, _, _, _, _] _
      repeat (go_big_quiet_step (fail))
      refine wpQuiet_nil ?_
      show wpQuiet _ _ _ _ [_, _, _, _, _] _
      repeat (go_big_quiet_step (fail))
      refine wpQuiet_nil ?_
      intro w3 hb3
      have hB3 : Below w.heap.size w w3 := HB.out.trans (hb3.mono HB.out.size)
      have hB4 : Below w.heap.size w (w3.alloc (.cells (entL x).toArray 54)) := hB3.alloc hB3.size _
      have hO4 : EntsR (w3.alloc (.cells (entL x).toArray 54)) u3 lk := (HE.out.keep hb3).keep ((Below.refl _ w3).alloc (Nat.le_refl _) _)
      have hS4 : Src (w3.alloc (.cells (entL x).toArray 54)) 5 (some ⟨w3.heap.size, 0, none⟩) 1 (entL x) := Src.of_new w3 54 (entL x).toArray 5 rfl
      have hlk : lk.length ≤ 100 := by have := HLT.out; omega
      have HO4 := Lib.hid hO4
      have HS4 := Lib.hid hS4
      have HB4 := Lib.hid hB4
      clear hO4 hS4 hB4 hB3
      refine wpList_run _ _ rfl (exec_build54 x w3 _ _ 16 21 26 31 36 rfl (by rfl) (by rfl) (by rfl) (by rfl) (by rfl)) ?_
      refine wpList_run _ _ rfl (exec_bs41 x w3 _ _ 37 rfl (by rfl)) ?_
      refine wpList_append_o _ rfl (.tmp 11) (.tmp 38) 41 rfl 54 i0 (.agg (entL default).toArray) 5 56 Try.underlying41 hi0 hz0 hz1 hz2 (by rfl) (by omega) u3 lk.length (qC lk) (by rfl) HO4.out (some ⟨w3.heap.size, 0, none⟩) 1 1 (entL x) (by rfl) HS4.out (entL_one _) (by simp only [maxLen]; omega) (by omega) ?_
      intro v5 w5 hown5 hf5 hr5
      refine wpList_run v5 w5 rfl (by unfold execOp; rfl) ?_
      refine wpList_nil ?_
      refine NoPan.normal ?_
      try simp only [Act.put, List.setIfInBounds_toArray, List.set_cons_zero, List.set_cons_succ]
      go_wp2_with fail
      go_roundw
      case rel =>
        have s4 := HB4.out.size
        refine ⟨k + 1, by omega, by go_num, ?_, fun j hj => (hr5 j hj).elim (HR.out j) (fun h => by omega), HB4.out.trans (hf5.below s4 (HR.out))⟩
        rw [HTS.out]
        exact EntsR.snoc hown5
      case measure => simp [intOf]; omega
    · obtain rfl : k = n := by omega
      have hd : decide ((k : Int) < (k : Int)) = false := decide_eq_false (by omega)
      rw [List.take_of_length_le (by rw [← HN.out]; omega)] at hE
      go_wp2_with fail
      go_ret
      exact ⟨_, rfl, hE, hR, hB⟩
end Go.Proofs.Ytkagfnocpllcpaa
