/- The law SealOf: the seal of any bytes by any key, its header, and the key of any name, is what the document says. For every input. -/
import Derived.Test.YtnlkjhhocehhaaaRefHead
import Derived.Test.YtnlkjhhocehhaaaEq25
import Derived.Test.YtnlkjhhocehhaaaBack
import Derived.Test.YtnlkjhhocehhaaaGrow
namespace Go.Proofs.Ytnlkjhhocehhaaa.sealOf
open Go Go.RowKit Go.Proofs Go.Proofs.Ytnlkjhhocehhaaa Sha
set_option linter.unusedVariables false
set_option maxRecDepth 100000 in
set_option maxHeartbeats 4000000 in
theorem walk (a0 : Option Addr) (len0 cap0 : Nat) (z0 : List Int) (a1 : Option Addr) (len1 cap1 : Nat) (z1 : List Int) (a2 : ByteArray) (w : World) (w0 : IsRow .u8 w a0 len0 cap0 z0) (w1 : IsRow .u8 w a1 len1 cap1 z1) (w2 : a2.size ≤ maxLen) :
    Calls Try.prog 9 #[.slice a0 len0 cap0, .slice a1 len1 cap1, .string a2] w fun e w' => e = .returned (.bool true) ∧ Below w.heap.size w w' := by
  obtain ⟨n, k, Hn, hn, hnc, hkl, hbk, hle0, hc0, -, HE0⟩ := early_arg w0
  obtain ⟨m, x, Hm, hm, hmc, hxl, hbx, hle1, hc1, -, HE1⟩ := early_arg w1
  clear w0 w1
  obtain ⟨q, hq⟩ : ∃ q, q = min a2.size 100 := ⟨_, rfl⟩
  obtain ⟨s, hs⟩ : ∃ s, s = a2.extract 0 q := ⟨_, rfl⟩
  have hsq : s.size = q := by rw [hs, ByteArray.size_extract]; omega
  have hq100 : s.size ≤ 100 := by omega
  have hqt : (min (a2.size : Int) 100).toNat = q := by omega
  have Hs := Lib.hid hs
  obtain ⟨D, hD⟩ : ∃ D, D = Go.Proofs.Ytnlkjhhocehhaaa.sealOf k x := ⟨_, rfl⟩
  obtain ⟨E, hE⟩ : ∃ E, E = Go.Proofs.Ytnlkjhhocehhaaa.sealOf k (0 :: strBytes s) := ⟨_, rfl⟩
  have hDl : D.length = 32 := by rw [hD]; exact length_seal _ _
  have hEl : E.length = 32 := by rw [hE]; exact length_seal _ _
  have C35 : Hid (∀ W, Below w.heap.size w W → Calls Try.prog 35 #[.slice a0 n cap0, .slice a1 m cap1] W fun e w' => e = .returned (.agg (byteVals D).toArray) ∧ Below W.heap.size W w') :=
    Lib.hid (fun W h => by rw [hD]; exact seal_any k x a0 a1 n cap0 m cap1 W Hn.out Hm.out (hbk.keep h) (hbx.keep h) (by omega) (by omega))
  have C36 : Hid (∀ W, Below w.heap.size w W → Calls Try.prog 36 #[.slice a0 n cap0, .slice a1 m cap1] W fun e w' => e = .returned (.agg (byteVals D).toArray) ∧ Below W.heap.size W w') :=
    Lib.hid (fun W h => by rw [hD]; exact rseal_any k x a0 a1 n cap0 m cap1 W Hn.out Hm.out (hbk.keep h) (hbx.keep h) (by omega) (by omega))
  obtain ⟨H, hH⟩ : ∃ H : ByteArray, H = ⟨(headerOf k x).toArray⟩ := ⟨_, rfl⟩
  have C37 : Hid (∀ W, Below w.heap.size w W → Calls Try.prog 37 #[.slice a0 n cap0, .slice a1 m cap1] W fun e w' => e = .returned (.string H) ∧ Below W.heap.size W w') :=
    Lib.hid (fun W h => by rw [hH]; exact header_any k x a0 a1 n cap0 m cap1 W Hn.out Hm.out (hbk.keep h) (hbx.keep h) (by omega) (by omega))
  have C38 : Hid (∀ W, Below w.heap.size w W → Calls Try.prog 38 #[.slice a0 n cap0, .slice a1 m cap1] W fun e w' => e = .returned (.string H) ∧ Below W.heap.size W w') :=
    Lib.hid (fun W h => by rw [hH]; exact rheader_any k x a0 a1 n cap0 m cap1 W Hn.out Hm.out (hbk.keep h) (hbx.keep h) (by omega) (by omega))
  have C39 : Hid (∀ W, Below w.heap.size w W → Calls Try.prog 39 #[.slice a0 n cap0, .string s] W fun e w' => ∃ g, e = .returned (.slice (some ⟨g, 0, none⟩) 32 32) ∧ Blk w' g 25 (byteVals E).toArray ∧ Below W.heap.size W w') :=
    Lib.hid (fun W h => (key_any k s a0 n cap0 W Hn.out (hbk.keep h) (by omega) (by omega)).mono (by rintro e w' ⟨g, h1, h2, h3, h4⟩; exact ⟨g, h1, by rw [hE]; exact h2, h4⟩))
  have C40 : Hid (∀ W, Below w.heap.size w W → Calls Try.prog 40 #[.slice a0 n cap0, .string s] W fun e w' => ∃ g, e = .returned (.slice (some ⟨g, 0, none⟩) 32 32) ∧ Blk w' g 25 (byteVals E).toArray ∧ Below W.heap.size W w') :=
    Lib.hid (fun W h => (rkey_any k s a0 n cap0 W Hn.out (hbk.keep h) (by omega) (by omega)).mono (by rintro e w' ⟨g, h1, h2, h3, h4⟩; exact ⟨g, h1, by rw [hE]; exact h2, h4⟩))
  have CV : Hid (∀ (W : World) (g : Nat), Blk W g 25 (byteVals E).toArray → (convert 22 9 (.slice (some ⟨g, 0, none⟩) 32 32)).run Try.prog W = .ok (.string ⟨E.toArray⟩) W) :=
    Lib.hid (fun W g h => back_text W _ 32 32 E hEl.symm ⟨by simp [byteVals], fun _ => ⟨g, 0, rfl, h.lt, fun j u hj => by rw [h.cell, Nat.zero_add]; simpa using hj⟩⟩)
  have heq := fun W => eq25 D D hDl hDl W
  simp only [decide_true] at heq
  clear hs hq hsq hD hE hDl hEl hH
  go_enter Try.func9, Try.ntmps9
  go_wp2_with (first
    | (go_at_call 33
       refine (lives33 w).mono ?_
       rintro e w1 ⟨rfl, hb1⟩)
    | fail)
  refine wp_region_quiet_below (by kernel_rfl) (by kernel_rfl) ?_
  repeat (go_big_quiet_step (first
    | (go_at_call 34; exact regrown_same (HE0.out _))
    | (go_at_call 34; exact regrown_same (HE1.out _))))
  refine wpQuiet_nil ?_
  intro w2 hw2
  have hb2 := Re.below hw2
  have hB2 : Below w.heap.size w w2 := hb1.trans (hb2.mono hb1.size)
  clear hw2
  rw [← Hs.out]
  clear hqt Hs HE0 HE1
  go_wp2_with fail
  have hBA : Below w.heap.size w w2.drew := hB2.trans ((Below.refl w2.heap.size w2).drew.mono hB2.size)
  refine wp_region_grow 28 [([0, 1, 3, 4], 2), ([], 5), ([6, 7, 8, 9, 11, 12], 10), ([], 13), ([14, 15, 16, 17, 18, 21, 22], 19), ([20], 23)] [24, 25, 26, 27] (by kernel_rfl) (by kernel_rfl) ?_
  obtain ⟨B, hB⟩ : ∃ B, B = w2.heap.size := ⟨_, rfl⟩
  have hAB : w2.drew.heap.size = B := hB.symm
  rw [← hB]
  obtain ⟨wA, hwA⟩ : ∃ wA, wA = w2.drew := ⟨_, rfl⟩
  rw [← hwA] at hBA hAB ⊢
  clear hwA hB hB2 hb2 hb1
  refine wpSegs_cons rfl (List.getElem?_toArray ..) ?_
  simp only [pick, List.filterMap_cons, List.filterMap_nil, List.getElem?_toArray, List.getElem?_cons_succ, List.getElem?_cons_zero]
  show wpQuiet _ _ _ _ [_, _, _, _] _
  repeat (go_big_quiet_step (fail))
  refine wpQuiet_nil ?_
  rw [if_pos (by rfl)]
  intro K hK
  go_simp
  go_at_call 35
  refine (C35.out _ hBA).mono ?_
  rintro e wB ⟨rfl, hbwB⟩
  have hBB : Below w.heap.size w wB := hBA.trans (hbwB.mono hBA.size)
  refine hK B _ _ (Nat.le_refl _) (fun _ => Fr.of_below hbwB _) ?_
  clear hK K
  try simp only [Act.put, List.setIfInBounds_toArray, List.set_cons_zero, List.set_cons_succ]
  refine wpSegs_cons rfl (List.getElem?_toArray ..) ?_
  simp only [pick, List.filterMap_cons, List.filterMap_nil, List.getElem?_toArray, List.getElem?_cons_succ, List.getElem?_cons_zero]
  refine wpQuiet_nil ?_
  rw [if_pos (by rfl)]
  intro K hK
  go_simp
  go_at_call 36
  refine (C36.out _ hBB).mono ?_
  rintro e wC ⟨rfl, hbwC⟩
  have hBC : Below w.heap.size w wC := hBB.trans (hbwC.mono hBB.size)
  refine hK B _ _ (Nat.le_refl _) (fun _ => Fr.of_below hbwC _) ?_
  clear hK K
  try simp only [Act.put, List.setIfInBounds_toArray, List.set_cons_zero, List.set_cons_succ]
  refine wpSegs_cons rfl (List.getElem?_toArray ..) ?_
  simp only [pick, List.filterMap_cons, List.filterMap_nil, List.getElem?_toArray, List.getElem?_cons_succ, List.getElem?_cons_zero]
  show wpQuiet _ _ _ _ [_, _, _, _, _, _] _
  repeat (go_big_quiet_step (fail))
  refine wpQuiet_nil ?_
  rw [if_pos (by rfl)]
  intro K hK
  go_simp
  go_at_call 37
  refine (C37.out _ hBC).mono ?_
  rintro e wD ⟨rfl, hbwD⟩
  have hBD : Below w.heap.size w wD := hBC.trans (hbwD.mono hBC.size)
  refine hK B _ _ (Nat.le_refl _) (fun _ => Fr.of_below hbwD _) ?_
  clear hK K
  try simp only [Act.put, List.setIfInBounds_toArray, List.set_cons_zero, List.set_cons_succ]
  refine wpSegs_cons rfl (List.getElem?_toArray ..) ?_
  simp only [pick, List.filterMap_cons, List.filterMap_nil, List.getElem?_toArray, List.getElem?_cons_succ, List.getElem?_cons_zero]
  refine wpQuiet_nil ?_
  rw [if_pos (by rfl)]
  intro K hK
  go_simp
  go_at_call 38
  refine (C38.out _ hBD).mono ?_
  rintro e wE ⟨rfl, hbwE⟩
  have hBE : Below w.heap.size w wE := hBD.trans (hbwE.mono hBD.size)
  refine hK B _ _ (Nat.le_refl _) (fun _ => Fr.of_below hbwE _) ?_
  clear hK K
  try simp only [Act.put, List.setIfInBounds_toArray, List.set_cons_zero, List.set_cons_succ]
  refine wpSegs_cons rfl (List.getElem?_toArray ..) ?_
  simp only [pick, List.filterMap_cons, List.filterMap_nil, List.getElem?_toArray, List.getElem?_cons_succ, List.getElem?_cons_zero]
  show wpQuiet _ _ _ _ [_, _, _, _, _, _, _] _
  repeat (go_big_quiet_step (fail))
  refine wpQuiet_nil ?_
  rw [if_pos (by rfl)]
  intro K hK
  go_simp
  go_at_call 39
  refine (C39.out _ hBE).mono ?_
  rintro e wF ⟨gF, rfl, hgF, hbwF⟩
  have hBF : Below w.heap.size w wF := hBE.trans (hbwF.mono hBE.size)
  refine hK wF.heap.size _ _ (Nat.le_trans (Nat.le_of_eq hAB.symm) (Nat.le_trans hbwB.size (Nat.le_trans hbwC.size (Nat.le_trans hbwD.size (Nat.le_trans hbwE.size hbwF.size))))) (fun _ => Fr.of_below hbwF _) ?_
  clear hK K
  try simp only [Act.put, List.setIfInBounds_toArray, List.set_cons_zero, List.set_cons_succ]
  have hcvF : ∀ q : Kept (geB wF.heap.size) wF, (convert 22 9 (.slice (some ⟨gF, 0, none⟩) 32 32)).run Try.prog q.x = .ok (.string ⟨E.toArray⟩) q.x := fun q => CV.out _ _ (hgF.fr q.fr (geB_not hgF.lt))
  refine wpSegs_cons rfl (List.getElem?_toArray ..) ?_
  simp only [pick, List.filterMap_cons, List.filterMap_nil, List.getElem?_toArray, List.getElem?_cons_succ, List.getElem?_cons_zero]
  show wpQuiet _ _ _ _ [_] _
  repeat (go_big_quiet_step (fail))
  refine wpQuiet_nil ?_
  rw [if_pos (by rfl)]
  intro K hK
  go_simp
  go_at_call 40
  refine (C40.out _ hBF).mono ?_
  rintro e wG ⟨gG, rfl, hgG, hbwG⟩
  have hBG : Below w.heap.size w wG := hBF.trans (hbwG.mono hBF.size)
  refine hK wG.heap.size _ _ hbwG.size (fun _ => Fr.of_below hbwG _) ?_
  clear hK K
  try simp only [Act.put, List.setIfInBounds_toArray, List.set_cons_zero, List.set_cons_succ]
  have hcvG : ∀ q : Kept (geB wG.heap.size) wG, (convert 22 9 (.slice (some ⟨gG, 0, none⟩) 32 32)).run Try.prog q.x = .ok (.string ⟨E.toArray⟩) q.x := fun q => CV.out _ _ (hgG.fr q.fr (geB_not hgG.lt))
  refine wpSegs_nil rfl ?_
  simp only [pick, List.filterMap_cons, List.filterMap_nil, List.getElem?_toArray, List.getElem?_cons_succ, List.getElem?_cons_zero]
  show wpQuiet _ _ _ _ [_, _, _, _] _
  repeat (go_big_quiet_step (fail))
  refine wpQuiet_nil ?_
  refine NoPan.normal ?_
  go_wp2_with fail
  go_ret
  exact ⟨rfl, hBG⟩
end Go.Proofs.Ytnlkjhhocehhaaa.sealOf
