/- The contracts of a queue's methods. -/
import Derived.Test.YtkagfnocpllcpaaQmem
import Derived.Test.YtkagfnocpllcpaaPure
import Derived.Outline
namespace Go.Proofs.Ytkagfnocpllcpaa
set_option linter.unusedVariables false
open Go Go.RowKit Go.Proofs
theorem len_any (A : Option Addr) (n c : Nat) (w : World) : Calls Try.prog 89 #[.slice A n c] w fun e w' => e = .returned (.int .i64 (n : Int)) ∧ w = w' := by
  go_enter Try.func89, Try.ntmps89
  go_wp2
  go_ret
  exact ⟨rfl, rfl⟩
set_option maxHeartbeats 1000000 in
theorem less_any (l : List E) (v : Value) (i j : Nat) (w : World) (h : Ents w v l) (hi : i < l.length) (hj : j < l.length) (hl : l.length ≤ 1000) :
    Calls Try.prog 90 #[v, .int .i64 (i : Int), .int .i64 (j : Int)] w fun e w' => e = .returned (.bool (ltE (l.getD i default) (l.getD j default))) ∧ Below w.heap.size w w' := by
  obtain ⟨g, o, cap, hv, hr, hg, hc, hm, hall⟩ := h.all (by omega)
  obtain ⟨hi1, _⟩ := hall i hi
  obtain ⟨hj1, _⟩ := hall j hj
  obtain ⟨n, hn⟩ : ∃ n, n = l.length := ⟨_, rfl⟩
  rw [← hn] at hi hj hv hl hc
  subst hv
  obtain ⟨a, ha⟩ : ∃ a, a = l.getD i default := ⟨_, rfl⟩
  obtain ⟨b, hb⟩ : ∃ b, b = l.getD j default := ⟨_, rfl⟩
  rw [← ha] at hi1 ⊢
  rw [← hb] at hj1 ⊢
  have R1 := Lib.hid (Regrown.range hi1 hg)
  have R2 := Lib.hid (Regrown.range hj1 hg)
  have hi0 : (0 : Int) ≤ (i : Int) := by omega
  have hin : (i : Int) < (n : Int) := by omega
  have hj0 : (0 : Int) ≤ (j : Int) := by omega
  have hjn : (j : Int) < (n : Int) := by omega
  clear hall hi1 hj1 ha hb hn hr h
  go_enter Try.func90, Try.ntmps90
  go_wp2_with fail
  refine wp_region_quiet_below (by kernel_rfl) (by kernel_rfl) ?_
  repeat (go_big_quiet_step (fail))
  go_big_quiet_want
  refine quiet_load_mid 47 (.tmp 9) rfl g (o + i * 5) (entL a) _ rfl R1.out Try.underlying47 rfl (info47 a) ?_
  go_big_quiet_on
  try simp only [Act.put, List.setIfInBounds_toArray, List.set_cons_zero, List.set_cons_succ]
  repeat (go_big_quiet_step (fail))
  go_big_quiet_want
  refine quiet_load_mid 47 (.tmp 13) rfl g (o + j * 5) (entL b) _ rfl R2.out Try.underlying47 rfl (info47 b) ?_
  go_big_quiet_on
  try simp only [Act.put, List.setIfInBounds_toArray, List.set_cons_zero, List.set_cons_succ]
  repeat (go_big_quiet_step ((go_at_call 32; with_reducible exact regrown_below (compare_any a b _))))
  refine wpQuiet_nil ?_
  intro w2 hw2
  have hb2 := Re.below hw2
  clear hw2
  go_wp2_with fail
  go_ret
  exact ⟨rfl, hb2⟩
set_option maxRecDepth 100000 in
set_option maxHeartbeats 1000000 in
theorem swap_any (l : List E) (v : Value) (i j : Nat) (w : World) (h : Ents w v l) (hi : i < l.length) (hj : j < l.length) (hl : l.length ≤ 1000) :
    Calls Try.prog 91 #[v, .int .i64 (i : Int), .int .i64 (j : Int)] w fun e w' => e = .returned (.tuple #[]) ∧ Ents w' v (Hp.swapL l i j) ∧ Fr (rowOf v) w w' := by
  obtain ⟨g, o, cap, hv, hr, hg, hc, hm, hall⟩ := h.all (by omega)
  obtain ⟨hi1, hi2⟩ := hall i hi
  obtain ⟨hj1, hj2⟩ := hall j hj
  have H := Lib.hid h
  obtain ⟨n, hn⟩ : ∃ n, n = l.length := ⟨_, rfl⟩
  rw [← hn] at hi hj hv hl hc
  subst hv
  obtain ⟨a, ha⟩ : ∃ a, a = l.getD i default := ⟨_, rfl⟩
  obtain ⟨b, hb⟩ : ∃ b, b = l.getD j default := ⟨_, rfl⟩
  rw [← ha] at hi1
  rw [← hb] at hj1
  have R1 := Lib.hid (fun W (hW : ∃ q : Kept nob w, W = q.x) => Kept.range hi1 hg (fun h => h) W hW)
  have R2 := Lib.hid (fun W (hW : ∃ q : Kept nob w, W = q.x) => Kept.range hj1 hg (fun h => h) W hW)
  have hi0 : (0 : Int) ≤ (i : Int) := by omega
  have hin : (i : Int) < (n : Int) := by omega
  have hj0 : (0 : Int) ≤ (j : Int) := by omega
  have hjn : (j : Int) < (n : Int) := by omega
  have HA := Lib.hid ha
  have HB := Lib.hid hb
  have HN := Lib.hid hn
  clear hall hi1 hj1 ha hb hn h hi2 hj2
  go_enter Try.func91, Try.ntmps91
  go_wp2_with fail
  refine wp_region_pure [0, 1, 2, 3, 4, 5, 6, 8, 9, 10] [7, 11] 12 [13, 14, 15] (by kernel_rfl) (by kernel_rfl) ?_
  simp only [pick, List.filterMap_cons, List.filterMap_nil, List.getElem?_toArray, List.getElem?_cons_succ, List.getElem?_cons_zero]
  show wpQuiet _ _ _ _ [_, _, _, _, _, _, _, _, _, _] _
  repeat (go_big_quiet_step (fail))
  refine wpQuiet_nil ?_
  show wpQuiet _ _ _ _ [_, _] _
  go_big_quiet_want
  refine quiet_load_mid 47 (.tmp 12) rfl g (o + j * 5) (entL b) _ rfl R2.out Try.underlying47 rfl (info47 b) ?_
  go_big_quiet_on
  try simp only [Act.put, List.setIfInBounds_toArray, List.set_cons_zero, List.set_cons_succ]
  repeat (go_big_quiet_step (fail))
  go_big_quiet_want
  refine quiet_load_mid 47 (.tmp 16) rfl g (o + i * 5) (entL a) _ rfl R1.out Try.underlying47 rfl (info47 a) ?_
  go_big_quiet_on
  try simp only [Act.put, List.setIfInBounds_toArray, List.set_cons_zero, List.set_cons_succ]
  repeat (go_big_quiet_step (fail))
  refine wpQuiet_nil ?_
  intro w2 hb2
  have h2 : Ents w2 (.slice (some ⟨g, o, none⟩) l.length cap) l := by have := H.out.keep hb2; rwa [HN.out] at this
  have t1 : w2.there g (o + i * 5) (entL b).toArray.size := (h2.at' i (by have := HN.out; omega)).2.1
  obtain ⟨h3, f3⟩ := h2.set_ i (by have := HN.out; omega) b
  have h3' : Ents (w2.setCells g (o + i * 5) (entL b)) (.slice (some ⟨g, o, none⟩) (l.set i b).length cap) (l.set i b) := by rw [List.length_set]; exact h3
  have hj' : j < (l.set i b).length := by rw [List.length_set]; have := HN.out; omega
  have t2 : (w2.setCells g (o + i * 5) (entL b)).there g (o + j * 5) (entL a).toArray.size := (h3'.at' j hj').2.1
  obtain ⟨h4, f4⟩ := h3'.set_ j hj' a
  clear h3' hj'
  have HF : Fr (one g) w _ := ((Fr.of_below hb2 (one g)).trans f3).trans f4
  clear f3 f4 hb2
  have H2 := Lib.hid h2
  have H3 := Lib.hid h3
  have H4 := Lib.hid h4
  clear h2 h3 h4
  refine wpList_run (.pointer (some ⟨g, o + i * 5, none⟩)) w2 rfl (by unfold execOp; go_simp) ?_
  refine wpList_store_mid rfl 47 (.tmp 18) (.tmp 13) rfl g (o + i * 5) (entL b).toArray (by rfl) (by rfl) t1 (info47 b) (one_ent b) ?_
  refine wpList_run (.pointer (some ⟨g, o + j * 5, none⟩)) (w2.setCells g (o + i * 5) (entL b)) rfl (by unfold execOp; go_simp) ?_
  refine wpList_store_mid rfl 47 (.tmp 19) (.tmp 17) rfl g (o + j * 5) (entL a).toArray (by rfl) (by rfl) t2 (info47 a) (one_ent a) ?_
  refine wpList_nil ?_
  refine NoPan.normal ?_
  try simp only [Act.put, List.setIfInBounds_toArray, List.set_cons_zero, List.set_cons_succ]
  go_wp2_with fail
  go_end0
  refine ⟨rfl, ?_, HF.mono (fun k _ hk => by cases hk; exact hr)⟩
  have := H4.out
  rw [List.length_set, ← HN.out] at this
  unfold Hp.swapL
  rw [← HA.out, ← HB.out]
  exact this
def foot (b : Nat) (v : Value) : Nat → Prop := fun k => k = b ∨ rowOf v k
theorem zero47 (W : World) : (Instr.alloc 47 true (.tuple #[])).run Try.prog W = .ok (.pointer (some ⟨W.heap.size, 0, none⟩)) (W.alloc (.cells (entL default).toArray 47)) := by kernel_rfl
set_option maxRecDepth 100000 in
set_option maxHeartbeats 1000000 in
theorem pop_any (b : Nat) (l : List E) (v : Value) (now : Int) (w : World) (hb : Blk w b 58 #[v, .int .i64 now]) (h : Ents w v l) (hl : l.length ≤ 1000) (h0 : 0 < l.length) :
    Calls Try.prog 92 #[.pointer (some ⟨b, 0, none⟩)] w fun e w' => e = .returned (.iface 47 (entV (l.getD (l.length - 1) default))) ∧ ∃ v', Blk w' b 58 #[v', .int .i64 now] ∧ Ents w' v' (l.take (l.length - 1)) ∧ Fr (one b) w w' ∧ ∀ k, rowOf v' k → rowOf v k := by
  obtain ⟨g, o, cap, hv, hr, hg, hc, hm, hall⟩ := h.all h0
  obtain ⟨n, hn⟩ : ∃ n, n = l.length - 1 := ⟨_, rfl⟩
  have hln : l.length = n + 1 := by omega
  rw [← hn]
  obtain ⟨hi1, _⟩ := hall n (by omega)
  obtain ⟨a, ha⟩ : ∃ a, a = l.getD n default := ⟨_, rfl⟩
  rw [← ha] at hi1 ⊢
  rw [hln] at hv hc hl
  subst hv
  have R1 := Lib.hid (fun W (hW : ∃ q : Kept nob w, W = q.x) => Kept.range hi1 hg (fun h => h) W hW)
  have hcell : w.cell? ⟨b, 0, none⟩ = some (.slice (some ⟨g, o, none⟩) (n + 1) cap) := hb.cell 0
  have hbl := hb.lt
  have HNE := Lib.hid (show b ≠ w.heap.size by omega)
  have hfz := hb.frozen 0
  have H := Lib.hid h
  have HB := Lib.hid hb
  have HN := Lib.hid hln
  have hz0 : (0 : Int) ≤ (n : Int) := by omega
  have hz1 : (n : Int) < (n : Int) + 1 := by omega
  have hz2 : ((n + 1 : Nat) : Int) - 1 = (n : Int) := by omega
  clear hall hi1 ha hn hln h hb h0
  go_enter Try.func92, Try.ntmps92
  go_wp2_with fail
  refine wp_region_late nob 10 1 0 (by kernel_rfl) (by kernel_rfl) rfl ?_
  simp only [List.take_succ_cons, List.take_zero, List.drop_succ_cons, List.drop_zero]
  repeat (go_big_quiet_step (fail))
  go_big_quiet_want
  refine quiet_load_mid 47 (.tmp 12) rfl g (o + n * 5) (entL a) _ rfl R1.out Try.underlying47 rfl (info47 a) ?_
  go_big_quiet_on
  try simp only [Act.put, List.setIfInBounds_toArray, List.set_cons_zero, List.set_cons_succ]
  refine wpQuiet_nil ?_
  refine wpKeep_step rfl (fun K hK => ?_)
  go_simp
  refine hK _ _ ((Fr.refl _ _).alloc _).drew ?_
  clear hK
  refine wpKeep_nil ?_
  refine wpList_store_blk rfl 47 (.tmp 3) (.tmp 13) rfl w.heap.size 47 (entL default).toArray (entL a).toArray (by rfl) (by rfl) (Blk.new w 47 _).drew rfl (info47 a) (one_ent a) ?_
  intro w3 hb3 hf3
  refine wpList_nil ?_
  refine NoPan.normal ?_
  try simp only [Act.put, List.setIfInBounds_toArray, List.set_cons_zero, List.set_cons_succ]
  have hF3 : Fr nob w w3 := (((Fr.refl nob w).alloc _).drew).then hf3 (fun i hi => Or.inr (by unfold one at hi; omega))
  have hB3 := HB.out.fr hF3 (fun h => h)
  have hcell3 : w3.cell? ⟨b, 0, none⟩ = some (.slice (some ⟨g, o, none⟩) (n + 1) cap) := hB3.cell 0
  have hbl3 := hB3.lt
  have hfz3 := hB3.frozen 0
  have HB3 := Lib.hid hB3
  have HE3 := Lib.hid hb3
  have HF3 := Lib.hid hF3
  have hwl : w.heap.size ≤ w3.heap.size := hF3.size
  have hcap0 : (n : Int) ≤ (cap : Int) := by omega
  clear hcell hbl hfz hB3 hb3 hf3 hF3
  go_wp2_with fail
  refine wp_region_pre 10 1 (by kernel_rfl) (by kernel_rfl) rfl ?_
  simp only [List.take_succ_cons, List.take_zero, List.drop_succ_cons, List.drop_zero]
  repeat (go_big_quiet_step (fail))
  refine wpQuiet_nil ?_
  intro w4 hb4
  have hB4 := HB3.out.below hb4 hbl3
  have hE4 := HE3.out.below hb4 HE3.out.lt
  have hcell4 : w4.cell? ⟨b, 0, none⟩ = some (.slice (some ⟨g, o, none⟩) (n + 1) cap) := hB4.cell 0
  have hfz4 := hB4.frozen 0
  have HB4 := Lib.hid hB4
  have HE4 := Lib.hid hE4
  clear hcell3 hfz3 hB4 hE4
  go_wp2_with (first
    | (refine wpList_load_blk rfl 47 (.tmp 3) rfl w.heap.size 47 (entL a).toArray _ (by rfl) (HE4.out.far' (Ne.symm HNE.out) _) Try.underlying47 rfl (info47 a) ?_)
    | fail)
  go_ret
  have hF4 : Fr (one b) w (w4.setCell ⟨b, 0, none⟩ (.slice (some ⟨g, o, none⟩) n cap)) := ((HF3.out.mono (fun _ _ h => h.elim)).trans (Fr.of_below hb4 (one b))).setCell' (.inl rfl) _
  refine ⟨rfl, _, HB4.out.set_ 0 _, ?_, hF4, fun k hk => hk⟩
  have h1 := H.out
  rw [← HN.out] at h1
  have h2 := h1.take (m := n) (by have := HN.out; omega)
  have hlt : (l.take n).length = n := by rw [List.length_take]; have := HN.out; omega
  refine Ents.fr (v := .slice (some ⟨g, o, none⟩) n cap) h2 hF4 (fun k hk => ?_)
  unfold one at hk
  subst hk
  exact h2.blk_ne HB.out (by decide)
end Go.Proofs.Ytkagfnocpllcpaa
