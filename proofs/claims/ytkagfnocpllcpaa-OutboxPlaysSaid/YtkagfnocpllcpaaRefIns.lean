/- The document's box: insert and cut. Written by wip/mkinsert.py. -/
import Derived.Test.YtkagfnocpllcpaaRef
import Derived.Test.YtkagfnocpllcpaaGrow2
namespace Go.Proofs.Ytkagfnocpllcpaa
set_option linter.unusedVariables false
open Go Go.RowKit Go.Proofs
set_option maxRecDepth 100000 in
set_option maxHeartbeats 4000000 in
theorem insert_any (b : Nat) (v : Value) (l : List E) (now : Int) (x : E) (w : World) (h : BoxR w b v l now) (hl : l.length ≤ 10) (hx : x.id.size ≤ 100) (hids : ∀ y ∈ l, y.id.size ≤ 100) :
    Calls Try.prog 48 #[rP b, entV x] w fun e w' => e = .returned (.tuple #[]) ∧ RTo b v now w (insL l x) w' := by
  obtain ⟨i0, hi0, hz0, hz1, hz2⟩ := info_parts infoE54
  obtain ⟨A, cap, hv, hc1, hc2⟩ := h.ents.shape
  obtain ⟨n, hn⟩ : ∃ n, n = l.length := ⟨_, rfl⟩
  rw [← hn] at hv hc1 hl
  have hw1 : Below w.heap.size w (w.alloc (.cells (entL x).toArray 54)) := (Below.refl _ w).alloc (Nat.le_refl _) _
  have hbx : Blk (w.alloc (.cells (entL x).toArray 54)) w.heap.size 54 (entL x).toArray := Blk.new w 54 _
  have h1 := h.keep hw1
  have hsz1 : (w.alloc (.cells (entL x).toArray 54)).heap.size = w.heap.size + 1 := by simp
  obtain ⟨gx, hgx⟩ : ∃ gx, gx = w.heap.size := ⟨_, rfl⟩
  rw [← hgx] at hbx hsz1
  have H := Lib.hid h
  have HN := Lib.hid hn
  have HIDS := Lib.hid hids
  have HGX := Lib.hid hgx
  have HW1 := Lib.hid hw1
  have hcb : (w.alloc (.cells (entL x).toArray 54)).cell? ⟨b, 0, none⟩ = some v := h1.blk.cell 0
  have hcb0 : w.cell? ⟨b, 0, none⟩ = some v := h.blk.cell 0
  have hbl : b < w.heap.size := h.blk.lt
  subst hv
  have HIK := Lib.hid (insK_spec x l n)
  clear h hn hids hw1
  go_enter Try.func48, Try.ntmps48
  go_wp2_with fail
  try rw [← HGX.out]
  obtain ⟨w1, hw1⟩ : ∃ w1, w1 = w.alloc (.cells (entL x).toArray 54) := ⟨_, rfl⟩
  show Code.wp _ _ _ _ (w.alloc (.cells (entL x).toArray 54))
  rw [← hw1] at hbx h1 hcb HW1 hsz1 ⊢
  have H1 := Lib.hid h1
  have HBX := Lib.hid hbx
  have HS1 := Lib.hid hsz1
  clear hw1 h1 hbx hsz1 hgx
  go_loopw [4] (fun c4 wr => ∃ k : Nat, k ≤ n ∧ c4 = .int .i64 (k : Int) ∧ insK x l n = insK x l k ∧ Below w1.heap.size w1 wr) (fun c4 _ => (intOf c4).toNat)
  case atStart => exact ⟨n, Nat.le_refl _, rfl, rfl, Below.refl _ _⟩
  case round =>
    obtain ⟨k, hk, rfl, hik, hB⟩ := hrel
    have hsr := hB.size
    have HIKE := Lib.hid hik
    have HB := Lib.hid hB
    have hcr : wr.cell? ⟨b, 0, none⟩ = some (.slice A n cap) := (H1.out.keep hB).blk.cell 0
    have hbr : b < wr.heap.size := (H1.out.keep hB).blk.lt
    have hbxr := HBX.out.below hB HBX.out.lt
    have RX := Lib.hid (Regrown.range (rangeAt_of_blk hbxr) hbxr.lt)
    clear hB hik hcb hbxr
    have hkn0 : (k : Int) ≤ (n : Int) := by omega
    have hk0 : (0 : Int) ≤ (k : Int) := by omega
    have hn10 : (n : Int) ≤ 10 := by omega
    by_cases hkp : k = 0
    · subst hkp
      have hf0 : decide ((0 : Int) < ((0 : Nat) : Int)) = false := by decide
      go_wp2_with fail
      refine wp_region_quiet_below (by kernel_rfl) (by kernel_rfl) ?_
      repeat (go_big_quiet_step (fail))
      refine wpQuiet_nil ?_
      intro w2 hw2
      have hb2 := Re.below hw2
      clear hw2
      have hke : insK x l n = 0 := by have := HIKE.out; rw [this]; rfl
      have hB2 := HB.out.trans (hb2.mono HB.out.size)
      have hs2 := H1.out.keep hB2
      have hbx2 := HBX.out.below hB2 HBX.out.lt
      have hHK := HIK.out
      rw [hke] at hHK
      have hcA : w2.drew.cell? ⟨b, 0, none⟩ = some (.slice A n cap) := hs2.blk.cell 0
      have hB2d : Below w1.heap.size w1 w2.drew := hB2.trans ((Below.refl w2.heap.size w2).drew.mono hB2.size)
      have hs2d : BoxR w2.drew b _ l now := hs2.keep (Below.refl w2.heap.size w2).drew
      have hbx2d : Blk w2.drew gx 54 (entL x).toArray := hbx2.drew
      clear hs2 hbx2 hB2 hb2 hcr hbr
      go_wp2_with fail
      refine wp_region_fork w2.heap.size 20 [0, 1, 2, 3, 4, 5, 6, 8, 11, 12, 13, 14, 15, 16] 7 [([], 9), ([], 10), ([], 17), ([18, 19], 20)] [] 9 [([], 7), ([], 10), ([], 17), ([18, 19], 20)] [] (by kernel_rfl) (by kernel_rfl) _ _ _ rfl (List.getElem?_toArray ..) (List.getElem?_toArray ..) rfl rfl ?_
      obtain ⟨Bd, hBd⟩ : ∃ Bd, Bd = w2.heap.size := ⟨_, rfl⟩
      have hAB : w2.drew.heap.size = Bd := hBd.symm
      rw [← hBd]
      obtain ⟨wA, hwA⟩ : ∃ wA, wA = w2.drew := ⟨_, rfl⟩
      rw [← hwA] at hB2d hs2d hbx2d hcA hAB ⊢
      clear hBd hwA
      have hbB : b < Bd := by have := hs2d.blk.lt; omega
      have hbA : b < wA.heap.size := hs2d.blk.lt
      have hgB : gx < Bd := by have := hbx2d.lt; omega
      have RXA := Lib.hid (Kept.range (S := geB Bd) (rangeAt_of_blk hbx2d) hbx2d.lt (by unfold geB; omega))
      simp only [pick, List.filterMap_cons, List.filterMap_nil, List.getElem?_toArray, List.getElem?_cons_succ, List.getElem?_cons_zero]
      show wpQuiet _ _ _ _ [_, _, _, _, _, _, _, _, _, _, _, _, _, _] _
      repeat (go_big_quiet_step (fail))
      go_big_quiet_want
      refine quiet_load_mid 54 (.tmp 3) rfl gx 0 (entL x) _ rfl RXA.out Try.underlying54 rfl (info54 x) ?_
      go_big_quiet_on
      try simp only [Act.put, List.setIfInBounds_toArray, List.set_cons_zero, List.set_cons_succ]
      repeat (go_big_quiet_step (fail))
      refine wpQuiet_nil ?_
      have hS1 : Src wA 5 A 0 (qC (l.take 0)) := ⟨rfl, fun h => by omega⟩
      have hS2 : Src wA 5 A n (qC (l.drop 0)) := by have := hs2d.ents; unfold EntsR at this; rw [← HN.out] at this; exact Src.of_own this
      have hl1 : (qC (l.take 0)).length = 0 * 5 := rfl
      refine ⟨fun K hK => ?_, fun K hK => ?_⟩
      · refine wp_append_o _ (.const (.slice none 0 0)) (.tmp 32) 41 rfl 54 i0 (.agg (entL default).toArray) 5 56 Try.underlying41 hi0 hz0 hz1 hz2 rfl (by omega) (.slice none 0 0) 0 [] rfl (Own.nil _ _ _) A 0 _ (qC (l.take 0)) rfl hS1 (qC_one _) (by simp only [maxLen]; omega) (by omega) ?_
        intro v1 wB hown1 hf1 hr1
        rw [Nat.zero_add, List.nil_append] at hown1
        have hF1 : Fr nob wA wB := hf1.mono (fun k _ hk => by cases hk)
        have hr1A : ∀ k, rowOf v1 k → Bd ≤ k := fun k hk => (hr1 k hk).elim (fun h => by cases h) (fun h => by omega)
        refine hK Bd _ _ (Nat.le_refl _) (fun _ => hF1.mono (fun _ _ h => h.elim)) ?_
        clear hK K
        have hzB : Bd ≤ wB.heap.size := by have := hF1.size; omega
        try simp only [Act.put, List.setIfInBounds_toArray, List.set_cons_zero, List.set_cons_succ]
        refine wpSegs_cons rfl (List.getElem?_toArray ..) ?_
        simp only [pick, List.filterMap_cons, List.filterMap_nil, List.getElem?_toArray, List.getElem?_cons_succ, List.getElem?_cons_zero]
        refine wpQuiet_nil ?_
        rw [if_pos (by rfl)]
        intro K hK
        refine wp_run _ _ (exec_bs41 x wB _ _ 34 (by rfl) (by rfl)) ?_
        refine hK Bd _ _ (Nat.le_refl _) (fun _ => (Fr.refl _ wB).alloc _) ?_
        clear hK K
        have hownC : Own (wB.alloc (.cells (entL x).toArray 54)) 54 5 v1 0 (qC (l.take 0)) := hown1.fr ((Fr.refl nob _).alloc _) (fun _ h => h.elim)
        have hSC : Src (wB.alloc (.cells (entL x).toArray 54)) 5 (some ⟨wB.heap.size, 0, none⟩) 1 (entL x) := Src.of_new wB 54 (entL x).toArray 5 rfl
        have hFC : Fr nob wA (wB.alloc (.cells (entL x).toArray 54)) := hF1.alloc _
        obtain ⟨gn, hgn⟩ : ∃ gn, gn = wB.heap.size := ⟨_, rfl⟩
        rw [← hgn] at hSC ⊢
        obtain ⟨wC, hwC⟩ : ∃ wC, wC = wB.alloc (.cells (entL x).toArray 54) := ⟨_, rfl⟩
        rw [← hwC] at hownC hSC hFC ⊢
        clear hgn hwC
        try simp only [Act.put, List.setIfInBounds_toArray, List.set_cons_zero, List.set_cons_succ]
        refine wpSegs_cons rfl (List.getElem?_toArray ..) ?_
        simp only [pick, List.filterMap_cons, List.filterMap_nil, List.getElem?_toArray, List.getElem?_cons_succ, List.getElem?_cons_zero]
        refine wpQuiet_nil ?_
        rw [if_pos (by rfl)]
        intro K hK
        refine wp_append_o _ (.tmp 33) (.tmp 35) 41 rfl 54 i0 (.agg (entL default).toArray) 5 56 Try.underlying41 hi0 hz0 hz1 hz2 rfl (by omega) v1 0 (qC (l.take 0)) rfl hownC (some ⟨gn, 0, none⟩) 1 1 (entL x) rfl hSC (entL_one _) (by simp only [maxLen]; omega) (by omega) ?_
        intro v2 wD hown2 hf2 hr2
        have hzC : Bd ≤ wC.heap.size := by have := hFC.size; omega
        have hr2A : ∀ k, rowOf v2 k → Bd ≤ k := fun k hk => (hr2 k hk).elim (hr1A k) (fun h => by omega)
        have hF2 : Fr (geB Bd) wC wD := hf2.mono (fun k _ hk => hr1A k hk)
        refine hK Bd _ _ (Nat.le_refl _) (fun _ => hF2) ?_
        clear hK K
        have hFD : Fr (geB Bd) wA wD := (hFC.mono (fun _ _ h => h.elim)).trans hF2
        have hzD : Bd ≤ wD.heap.size := by have := hFD.size; omega
        have hS2D := hS2.fr hFD (fun g' o' hm h9 h10 => by
          obtain ⟨g8, o8, h8, hg8, _⟩ := hS2.2 hm
          rw [h8] at h9
          simp only [Option.some.injEq, Addr.mk.injEq] at h9
          obtain ⟨rfl, -⟩ := h9
          unfold geB at h10; omega)
        try simp only [Act.put, List.setIfInBounds_toArray, List.set_cons_zero, List.set_cons_succ]
        refine wpSegs_cons rfl (List.getElem?_toArray ..) ?_
        simp only [pick, List.filterMap_cons, List.filterMap_nil, List.getElem?_toArray, List.getElem?_cons_succ, List.getElem?_cons_zero]
        refine wpQuiet_nil ?_
        rw [if_pos (by rfl)]
        intro K hK
        refine wp_append_o _ (.tmp 36) (.tmp 42) 41 rfl 54 i0 (.agg (entL default).toArray) 5 56 Try.underlying41 hi0 hz0 hz1 hz2 rfl (by omega) v2 (0 + 1) (qC (l.take 0) ++ entL x) rfl hown2 A n _ (qC (l.drop 0)) rfl hS2D (qC_one _) (by simp only [maxLen]; omega) (by omega) ?_
        intro v3 wE hown3 hf3 hr3
        have hr3A : ∀ k, rowOf v3 k → Bd ≤ k := fun k hk => (hr3 k hk).elim (hr2A k) (fun h => by omega)
        have hF3 : Fr (geB Bd) wD wE := hf3.mono (fun k _ hk => hr2A k hk)
        refine hK Bd _ _ (Nat.le_refl _) (fun _ => hF3) ?_
        clear hK K
        have hFE : Fr (geB Bd) wA wE := hFD.trans hF3
        have hbE := hs2d.blk.fr hFE (by unfold geB; omega)
        have hcE : wE.cell? ⟨b, 0, none⟩ = some _ := hbE.cell 0
        have hfE := hbE.frozen 0
        have hqe : qC (l.take 0) ++ entL x ++ qC (l.drop 0) = qC (insL l x) := by unfold insL; rw [← HN.out, hke, qC_append, qC_cons, List.append_assoc]
        have hle : 0 + 1 + n = (insL l x).length := by rw [length_insL, ← HN.out]; omega
        rw [hqe, hle] at hown3
        have hE3 : EntsR wE v3 (insL l x) := hown3
        obtain ⟨A3, c3, hv3, -, -⟩ := hE3.shape
        try simp only [Act.put, List.setIfInBounds_toArray, List.set_cons_zero, List.set_cons_succ]
        refine wpSegs_cons rfl (List.getElem?_toArray ..) ?_
        simp only [pick, List.filterMap_cons, List.filterMap_nil, List.getElem?_toArray, List.getElem?_cons_succ, List.getElem?_cons_zero]
        show wpQuiet _ _ _ _ [_, _] _
        repeat (go_big_quiet_step (fail))
        refine wpQuiet_nil ?_
        rw [if_pos (by rfl)]
        intro K hK
        go_simp
        refine hK Bd _ _ (Nat.le_refl _) (fun h => absurd rfl h) ?_
        clear hK K
        refine wpSegs_nil rfl ?_
        refine wpQuiet_nil ?_
        refine NoPan.normal ?_
        try simp only [Act.put, List.setIfInBounds_toArray, List.set_cons_zero, List.set_cons_succ]
        go_wp2_with fail
        go_end0
        have hbEl : b < wE.heap.size := hbE.lt
        have hEE : EntsR (wE.setCell ⟨b, 0, none⟩ (.slice A3 (insL l x).length c3)) (.slice A3 (insL l x).length c3) (insL l x) := by
          rw [← hv3]
          exact Own.fr hE3 ((Fr.refl (one b) wE).setCell' (.inl rfl) _) (fun k hk hk2 => by unfold one at hk; have := hr3A k hk2; omega)
        have hBw : Below w.heap.size w wE := by
          have q1 := HW1.out.size
          have q2 := hB2d.size
          exact (HW1.out.trans (hB2d.mono q1)).trans (hFE.below (by omega) (fun k hk => by unfold geB at hk; omega))
        refine ⟨rfl, _, ⟨hbE.set_ 0 _, hEE⟩, (Fr.of_below hBw (one b)).setCell' (.inl rfl) _, fun k hk => ?_⟩
        have q1 := HW1.out.size
        have q2 := hB2d.size
        exact .inr (by have := hr3A k (by rw [hv3]; exact hk); omega)
      · refine wp_run _ _ (exec_bs41 x wA _ _ 34 (by rfl) (by rfl)) ?_
        refine hK Bd _ _ (Nat.le_refl _) (fun _ => (Fr.refl _ wA).alloc _) ?_
        clear hK K
        have hSB : Src (wA.alloc (.cells (entL x).toArray 54)) 5 (some ⟨wA.heap.size, 0, none⟩) 1 (entL x) := Src.of_new wA 54 (entL x).toArray 5 rfl
        have hFB : Fr nob wA (wA.alloc (.cells (entL x).toArray 54)) := (Fr.refl nob wA).alloc _
        obtain ⟨gn, hgn⟩ : ∃ gn, gn = wA.heap.size := ⟨_, rfl⟩
        rw [← hgn] at hSB ⊢
        obtain ⟨wB, hwB⟩ : ∃ wB, wB = wA.alloc (.cells (entL x).toArray 54) := ⟨_, rfl⟩
        rw [← hwB] at hSB hFB ⊢
        clear hgn hwB
        have hS1 := hS1.fr hFB (fun _ _ _ _ h => h)
        have hzB : Bd ≤ wB.heap.size := by have := hFB.size; omega
        try simp only [Act.put, List.setIfInBounds_toArray, List.set_cons_zero, List.set_cons_succ]
        refine wpSegs_cons rfl (List.getElem?_toArray ..) ?_
        simp only [pick, List.filterMap_cons, List.filterMap_nil, List.getElem?_toArray, List.getElem?_cons_succ, List.getElem?_cons_zero]
        refine wpQuiet_nil ?_
        rw [if_pos (by rfl)]
        intro K hK
        refine wp_append_o _ (.const (.slice none 0 0)) (.tmp 32) 41 rfl 54 i0 (.agg (entL default).toArray) 5 56 Try.underlying41 hi0 hz0 hz1 hz2 rfl (by omega) (.slice none 0 0) 0 [] rfl (Own.nil _ _ _) A 0 _ (qC (l.take 0)) rfl hS1 (qC_one _) (by simp only [maxLen]; omega) (by omega) ?_
        intro v1 wC hown1 hf1 hr1
        rw [Nat.zero_add, List.nil_append] at hown1
        have hF1 : Fr nob wB wC := hf1.mono (fun k _ hk => by cases hk)
        have hr1A : ∀ k, rowOf v1 k → Bd ≤ k := fun k hk => (hr1 k hk).elim (fun h => by cases h) (fun h => by omega)
        refine hK Bd _ _ (Nat.le_refl _) (fun _ => hF1.mono (fun _ _ h => h.elim)) ?_
        clear hK K
        have hownC := hown1
        have hSC := hSB.fr hF1 (fun _ _ _ _ h => h)
        have hFC : Fr nob wA wC := hFB.trans hF1
        try simp only [Act.put, List.setIfInBounds_toArray, List.set_cons_zero, List.set_cons_succ]
        refine wpSegs_cons rfl (List.getElem?_toArray ..) ?_
        simp only [pick, List.filterMap_cons, List.filterMap_nil, List.getElem?_toArray, List.getElem?_cons_succ, List.getElem?_cons_zero]
        refine wpQuiet_nil ?_
        rw [if_pos (by rfl)]
        intro K hK
        refine wp_append_o _ (.tmp 33) (.tmp 35) 41 rfl 54 i0 (.agg (entL default).toArray) 5 56 Try.underlying41 hi0 hz0 hz1 hz2 rfl (by omega) v1 0 (qC (l.take 0)) rfl hownC (some ⟨gn, 0, none⟩) 1 1 (entL x) rfl hSC (entL_one _) (by simp only [maxLen]; omega) (by omega) ?_
        intro v2 wD hown2 hf2 hr2
        have hzC : Bd ≤ wC.heap.size := by have := hFC.size; omega
        have hr2A : ∀ k, rowOf v2 k → Bd ≤ k := fun k hk => (hr2 k hk).elim (hr1A k) (fun h => by omega)
        have hF2 : Fr (geB Bd) wC wD := hf2.mono (fun k _ hk => hr1A k hk)
        refine hK Bd _ _ (Nat.le_refl _) (fun _ => hF2) ?_
        clear hK K
        have hFD : Fr (geB Bd) wA wD := (hFC.mono (fun _ _ h => h.elim)).trans hF2
        have hzD : Bd ≤ wD.heap.size := by have := hFD.size; omega
        have hS2D := hS2.fr hFD (fun g' o' hm h9 h10 => by
          obtain ⟨g8, o8, h8, hg8, _⟩ := hS2.2 hm
          rw [h8] at h9
          simp only [Option.some.injEq, Addr.mk.injEq] at h9
          obtain ⟨rfl, -⟩ := h9
          unfold geB at h10; omega)
        try simp only [Act.put, List.setIfInBounds_toArray, List.set_cons_zero, List.set_cons_succ]
        refine wpSegs_cons rfl (List.getElem?_toArray ..) ?_
        simp only [pick, List.filterMap_cons, List.filterMap_nil, List.getElem?_toArray, List.getElem?_cons_succ, List.getElem?_cons_zero]
        refine wpQuiet_nil ?_
        rw [if_pos (by rfl)]
        intro K hK
        refine wp_append_o _ (.tmp 36) (.tmp 42) 41 rfl 54 i0 (.agg (entL default).toArray) 5 56 Try.underlying41 hi0 hz0 hz1 hz2 rfl (by omega) v2 (0 + 1) (qC (l.take 0) ++ entL x) rfl hown2 A n _ (qC (l.drop 0)) rfl hS2D (qC_one _) (by simp only [maxLen]; omega) (by omega) ?_
        intro v3 wE hown3 hf3 hr3
        have hr3A : ∀ k, rowOf v3 k → Bd ≤ k := fun k hk => (hr3 k hk).elim (hr2A k) (fun h => by omega)
        have hF3 : Fr (geB Bd) wD wE := hf3.mono (fun k _ hk => hr2A k hk)
        refine hK Bd _ _ (Nat.le_refl _) (fun _ => hF3) ?_
        clear hK K
        have hFE : Fr (geB Bd) wA wE := hFD.trans hF3
        have hbE := hs2d.blk.fr hFE (by unfold geB; omega)
        have hcE : wE.cell? ⟨b, 0, none⟩ = some _ := hbE.cell 0
        have hfE := hbE.frozen 0
        have hqe : qC (l.take 0) ++ entL x ++ qC (l.drop 0) = qC (insL l x) := by unfold insL; rw [← HN.out, hke, qC_append, qC_cons, List.append_assoc]
        have hle : 0 + 1 + n = (insL l x).length := by rw [length_insL, ← HN.out]; omega
        rw [hqe, hle] at hown3
        have hE3 : EntsR wE v3 (insL l x) := hown3
        obtain ⟨A3, c3, hv3, -, -⟩ := hE3.shape
        try simp only [Act.put, List.setIfInBounds_toArray, List.set_cons_zero, List.set_cons_succ]
        refine wpSegs_cons rfl (List.getElem?_toArray ..) ?_
        simp only [pick, List.filterMap_cons, List.filterMap_nil, List.getElem?_toArray, List.getElem?_cons_succ, List.getElem?_cons_zero]
        show wpQuiet _ _ _ _ [_, _] _
        repeat (go_big_quiet_step (fail))
        refine wpQuiet_nil ?_
        rw [if_pos (by rfl)]
        intro K hK
        go_simp
        refine hK Bd _ _ (Nat.le_refl _) (fun h => absurd rfl h) ?_
        clear hK K
        refine wpSegs_nil rfl ?_
        refine wpQuiet_nil ?_
        refine NoPan.normal ?_
        try simp only [Act.put, List.setIfInBounds_toArray, List.set_cons_zero, List.set_cons_succ]
        go_wp2_with fail
        go_end0
        have hbEl : b < wE.heap.size := hbE.lt
        have hEE : EntsR (wE.setCell ⟨b, 0, none⟩ (.slice A3 (insL l x).length c3)) (.slice A3 (insL l x).length c3) (insL l x) := by
          rw [← hv3]
          exact Own.fr hE3 ((Fr.refl (one b) wE).setCell' (.inl rfl) _) (fun k hk hk2 => by unfold one at hk; have := hr3A k hk2; omega)
        have hBw : Below w.heap.size w wE := by
          have q1 := HW1.out.size
          have q2 := hB2d.size
          exact (HW1.out.trans (hB2d.mono q1)).trans (hFE.below (by omega) (fun k hk => by unfold geB at hk; omega))
        refine ⟨rfl, _, ⟨hbE.set_ 0 _, hEE⟩, (Fr.of_below hBw (one b)).setCell' (.inl rfl) _, fun k hk => ?_⟩
        have q1 := HW1.out.size
        have q2 := hB2d.size
        exact .inr (by have := hr3A k (by rw [hv3]; exact hk); omega)
    · obtain ⟨j, hj⟩ : ∃ j, k = j + 1 := ⟨k - 1, by omega⟩
      have hf0 : decide ((0 : Int) < (k : Int)) = true := decide_eq_true (by omega)
      have hf00 : decide (0 < k) = true := decide_eq_true (by omega)
      have hkp' : 0 < k := by omega
      have hk5 : k ≤ 10 := by omega
      obtain ⟨gy, oy, cy, hvy, -, hgy, hry⟩ := H1.out.ents.at_ j (by have := HN.out; omega)
      simp only [Value.slice.injEq] at hvy
      obtain ⟨rfl, -, rfl⟩ := hvy
      have hry' := rangeAt_below hry HB.out hgy
      have RY := Lib.hid (Regrown.range hry' (Nat.lt_of_lt_of_le hgy HB.out.size))
      have hst : insK x l (j + 1) = if ltE x (l.getD j default) then insK x l j else j + 1 := rfl
      have hyid := HIDS.out (l.getD j default) (by simp [show j < l.length by have := HN.out; omega])
      obtain ⟨y, hy⟩ : ∃ y, y = l.getD j default := ⟨_, rfl⟩
      rw [← hy] at hst hyid RY
      have HAH := Lib.hid (fun w => ahead_any x y hx hyid w)
      obtain ⟨t, ht⟩ : ∃ t, t = ltE x y := ⟨_, rfl⟩
      rw [← ht] at hst HAH
      have hj1 : ((k : Int) - 1).toNat = j := by omega
      have hj2 : (0 : Int) ≤ (k : Int) - 1 := by omega
      have hj3 : (k : Int) - 1 < (n : Int) := by omega
      have HJ := Lib.hid hj
      have HST := Lib.hid hst
      clear hry hry' hy ht hj hst
      go_wp2_with fail
      refine wp_region_quiet_below (by kernel_rfl) (by kernel_rfl) ?_
      repeat (go_big_quiet_step (fail))
      go_big_quiet_want
      refine quiet_load_mid 54 (.tmp 3) rfl gx 0 (entL x) _ rfl RX.out Try.underlying54 rfl (info54 x) ?_
      go_big_quiet_on
      try simp only [Act.put, List.setIfInBounds_toArray, List.set_cons_zero, List.set_cons_succ]
      repeat (go_big_quiet_step (fail))
      go_big_quiet_want
      refine quiet_load_mid 54 (.tmp 20) rfl gy (oy + j * 5) (entL y) _ rfl RY.out Try.underlying54 rfl (info54 y) ?_
      go_big_quiet_on
      try simp only [Act.put, List.setIfInBounds_toArray, List.set_cons_zero, List.set_cons_succ]
      repeat (go_big_quiet_step ((go_at_call 55; with_reducible exact regrown_below (HAH.out _))))
      refine wpQuiet_nil ?_
      intro w2 hw2
      have hb2 := Re.below hw2
      clear hw2
      cases t with
      | true =>
        go_wp2_with fail
        go_roundw
        case rel => exact ⟨j, by have := HJ.out; omega, by have := HJ.out; go_num, by have := HIKE.out; rw [this, HJ.out, HST.out, if_pos rfl], HB.out.trans (hb2.mono HB.out.size)⟩
        case measure => have := HJ.out; simp [intOf]; omega
      | false =>
        have hke : insK x l n = k := by have := HIKE.out; rw [this]; have h9 := HST.out; rw [← HJ.out] at h9; rw [h9]; rfl
        have hB2 := HB.out.trans (hb2.mono HB.out.size)
        have hs2 := H1.out.keep hB2
        have hbx2 := HBX.out.below hB2 HBX.out.lt
        have hHK := HIK.out
        rw [hke] at hHK
        have hcA : w2.drew.cell? ⟨b, 0, none⟩ = some (.slice (some ⟨gy, oy, none⟩) n cap) := hs2.blk.cell 0
        have hB2d : Below w1.heap.size w1 w2.drew := hB2.trans ((Below.refl w2.heap.size w2).drew.mono hB2.size)
        have hs2d : BoxR w2.drew b _ l now := hs2.keep (Below.refl w2.heap.size w2).drew
        have hbx2d : Blk w2.drew gx 54 (entL x).toArray := hbx2.drew
        clear hs2 hbx2 hB2 hb2 hcr hbr
        go_wp2_with fail
        refine wp_region_fork w2.heap.size 20 [0, 1, 2, 3, 4, 5, 6, 8, 11, 12, 13, 14, 15, 16] 7 [([], 9), ([], 10), ([], 17), ([18, 19], 20)] [] 9 [([], 7), ([], 10), ([], 17), ([18, 19], 20)] [] (by kernel_rfl) (by kernel_rfl) _ _ _ rfl (List.getElem?_toArray ..) (List.getElem?_toArray ..) rfl rfl ?_
        obtain ⟨Bd, hBd⟩ : ∃ Bd, Bd = w2.heap.size := ⟨_, rfl⟩
        have hAB : w2.drew.heap.size = Bd := hBd.symm
        rw [← hBd]
        obtain ⟨wA, hwA⟩ : ∃ wA, wA = w2.drew := ⟨_, rfl⟩
        rw [← hwA] at hB2d hs2d hbx2d hcA hAB ⊢
        clear hBd hwA
        have hbB : b < Bd := by have := hs2d.blk.lt; omega
        have hbA : b < wA.heap.size := hs2d.blk.lt
        have hgB : gx < Bd := by have := hbx2d.lt; omega
        have RXA := Lib.hid (Kept.range (S := geB Bd) (rangeAt_of_blk hbx2d) hbx2d.lt (by unfold geB; omega))
        simp only [pick, List.filterMap_cons, List.filterMap_nil, List.getElem?_toArray, List.getElem?_cons_succ, List.getElem?_cons_zero]
        show wpQuiet _ _ _ _ [_, _, _, _, _, _, _, _, _, _, _, _, _, _] _
        repeat (go_big_quiet_step (fail))
        go_big_quiet_want
        refine quiet_load_mid 54 (.tmp 3) rfl gx 0 (entL x) _ rfl RXA.out Try.underlying54 rfl (info54 x) ?_
        go_big_quiet_on
        try simp only [Act.put, List.setIfInBounds_toArray, List.set_cons_zero, List.set_cons_succ]
        repeat (go_big_quiet_step (fail))
        refine wpQuiet_nil ?_
        have hS1 : Src wA 5 (some ⟨gy, oy, none⟩) k (qC (l.take k)) := by
          have h9 := Src.part (n := k) hs2d.ents (by rw [← HN.out]) 0 (l.take k) (fun j hj => by
            rw [List.length_take] at hj
            refine ⟨by omega, ?_⟩
            rw [Nat.zero_add]; simp only [List.getD_eq_getElem?_getD]; rw [List.getElem?_take_of_lt (by omega)]) (by rw [List.length_take, ← HN.out]; omega)
          rwa [Nat.zero_mul, Nat.add_zero] at h9
        have hS2 : Src wA 5 (if cap = k then some ⟨gy, oy, none⟩ else some ⟨gy, oy + k * 5, none⟩) (n - k) (qC (l.drop k)) := by
          by_cases hc : cap = k
          · have h9 : n - k = 0 := by omega
            refine ⟨by rw [length_qC, List.length_drop, ← HN.out], fun h => by omega⟩
          · rw [if_neg hc]
            exact Src.part (n := n - k) hs2d.ents (by rw [← HN.out]) k (l.drop k) (fun j hj => by
              rw [List.length_drop] at hj
              refine ⟨by omega, ?_⟩
              simp only [List.getD_eq_getElem?_getD, List.getElem?_drop]) (by rw [List.length_drop, ← HN.out])
        obtain ⟨A2, hA2⟩ : ∃ A2, A2 = if cap = k then (some ⟨gy, oy, none⟩ : Option Addr) else some ⟨gy, oy + k * 5, none⟩ := ⟨_, rfl⟩
        rw [← hA2] at hS2 ⊢
        clear hA2
        refine ⟨fun K hK => ?_, fun K hK => ?_⟩
        · refine wp_append_o _ (.const (.slice none 0 0)) (.tmp 32) 41 rfl 54 i0 (.agg (entL default).toArray) 5 56 Try.underlying41 hi0 hz0 hz1 hz2 rfl (by omega) (.slice none 0 0) 0 [] rfl (Own.nil _ _ _) (some ⟨gy, oy, none⟩) k _ (qC (l.take k)) rfl hS1 (qC_one _) (by simp only [maxLen]; omega) (by omega) ?_
          intro v1 wB hown1 hf1 hr1
          rw [Nat.zero_add, List.nil_append] at hown1
          have hF1 : Fr nob wA wB := hf1.mono (fun k _ hk => by cases hk)
          have hr1A : ∀ k, rowOf v1 k → Bd ≤ k := fun k hk => (hr1 k hk).elim (fun h => by cases h) (fun h => by omega)
          refine hK Bd _ _ (Nat.le_refl _) (fun _ => hF1.mono (fun _ _ h => h.elim)) ?_
          clear hK K
          have hzB : Bd ≤ wB.heap.size := by have := hF1.size; omega
          try simp only [Act.put, List.setIfInBounds_toArray, List.set_cons_zero, List.set_cons_succ]
          refine wpSegs_cons rfl (List.getElem?_toArray ..) ?_
          simp only [pick, List.filterMap_cons, List.filterMap_nil, List.getElem?_toArray, List.getElem?_cons_succ, List.getElem?_cons_zero]
          refine wpQuiet_nil ?_
          rw [if_pos (by rfl)]
          intro K hK
          refine wp_run _ _ (exec_bs41 x wB _ _ 34 (by rfl) (by rfl)) ?_
          refine hK Bd _ _ (Nat.le_refl _) (fun _ => (Fr.refl _ wB).alloc _) ?_
          clear hK K
          have hownC : Own (wB.alloc (.cells (entL x).toArray 54)) 54 5 v1 k (qC (l.take k)) := hown1.fr ((Fr.refl nob _).alloc _) (fun _ h => h.elim)
          have hSC : Src (wB.alloc (.cells (entL x).toArray 54)) 5 (some ⟨wB.heap.size, 0, none⟩) 1 (entL x) := Src.of_new wB 54 (entL x).toArray 5 rfl
          have hFC : Fr nob wA (wB.alloc (.cells (entL x).toArray 54)) := hF1.alloc _
          obtain ⟨gn, hgn⟩ : ∃ gn, gn = wB.heap.size := ⟨_, rfl⟩
          rw [← hgn] at hSC ⊢
          obtain ⟨wC, hwC⟩ : ∃ wC, wC = wB.alloc (.cells (entL x).toArray 54) := ⟨_, rfl⟩
          rw [← hwC] at hownC hSC hFC ⊢
          clear hgn hwC
          try simp only [Act.put, List.setIfInBounds_toArray, List.set_cons_zero, List.set_cons_succ]
          refine wpSegs_cons rfl (List.getElem?_toArray ..) ?_
          simp only [pick, List.filterMap_cons, List.filterMap_nil, List.getElem?_toArray, List.getElem?_cons_succ, List.getElem?_cons_zero]
          refine wpQuiet_nil ?_
          rw [if_pos (by rfl)]
          intro K hK
          refine wp_append_o _ (.tmp 33) (.tmp 35) 41 rfl 54 i0 (.agg (entL default).toArray) 5 56 Try.underlying41 hi0 hz0 hz1 hz2 rfl (by omega) v1 k (qC (l.take k)) rfl hownC (some ⟨gn, 0, none⟩) 1 1 (entL x) rfl hSC (entL_one _) (by simp only [maxLen]; omega) (by omega) ?_
          intro v2 wD hown2 hf2 hr2
          have hzC : Bd ≤ wC.heap.size := by have := hFC.size; omega
          have hr2A : ∀ k, rowOf v2 k → Bd ≤ k := fun k hk => (hr2 k hk).elim (hr1A k) (fun h => by omega)
          have hF2 : Fr (geB Bd) wC wD := hf2.mono (fun k _ hk => hr1A k hk)
          refine hK Bd _ _ (Nat.le_refl _) (fun _ => hF2) ?_
          clear hK K
          have hFD : Fr (geB Bd) wA wD := (hFC.mono (fun _ _ h => h.elim)).trans hF2
          have hzD : Bd ≤ wD.heap.size := by have := hFD.size; omega
          have hS2D := hS2.fr hFD (fun g' o' hm h9 h10 => by
            obtain ⟨g8, o8, h8, hg8, _⟩ := hS2.2 hm
            rw [h8] at h9
            simp only [Option.some.injEq, Addr.mk.injEq] at h9
            obtain ⟨rfl, -⟩ := h9
            unfold geB at h10; omega)
          try simp only [Act.put, List.setIfInBounds_toArray, List.set_cons_zero, List.set_cons_succ]
          refine wpSegs_cons rfl (List.getElem?_toArray ..) ?_
          simp only [pick, List.filterMap_cons, List.filterMap_nil, List.getElem?_toArray, List.getElem?_cons_succ, List.getElem?_cons_zero]
          refine wpQuiet_nil ?_
          rw [if_pos (by rfl)]
          intro K hK
          refine wp_append_o _ (.tmp 36) (.tmp 42) 41 rfl 54 i0 (.agg (entL default).toArray) 5 56 Try.underlying41 hi0 hz0 hz1 hz2 rfl (by omega) v2 (k + 1) (qC (l.take k) ++ entL x) rfl hown2 A2 (n - k) _ (qC (l.drop k)) rfl hS2D (qC_one _) (by simp only [maxLen]; omega) (by omega) ?_
          intro v3 wE hown3 hf3 hr3
          have hr3A : ∀ k, rowOf v3 k → Bd ≤ k := fun k hk => (hr3 k hk).elim (hr2A k) (fun h => by omega)
          have hF3 : Fr (geB Bd) wD wE := hf3.mono (fun k _ hk => hr2A k hk)
          refine hK Bd _ _ (Nat.le_refl _) (fun _ => hF3) ?_
          clear hK K
          have hFE : Fr (geB Bd) wA wE := hFD.trans hF3
          have hbE := hs2d.blk.fr hFE (by unfold geB; omega)
          have hcE : wE.cell? ⟨b, 0, none⟩ = some _ := hbE.cell 0
          have hfE := hbE.frozen 0
          have hqe : qC (l.take k) ++ entL x ++ qC (l.drop k) = qC (insL l x) := by unfold insL; rw [← HN.out, hke, qC_append, qC_cons, List.append_assoc]
          have hle : k + 1 + (n - k) = (insL l x).length := by rw [length_insL, ← HN.out]; omega
          rw [hqe, hle] at hown3
          have hE3 : EntsR wE v3 (insL l x) := hown3
          obtain ⟨A3, c3, hv3, -, -⟩ := hE3.shape
          try simp only [Act.put, List.setIfInBounds_toArray, List.set_cons_zero, List.set_cons_succ]
          refine wpSegs_cons rfl (List.getElem?_toArray ..) ?_
          simp only [pick, List.filterMap_cons, List.filterMap_nil, List.getElem?_toArray, List.getElem?_cons_succ, List.getElem?_cons_zero]
          show wpQuiet _ _ _ _ [_, _] _
          repeat (go_big_quiet_step (fail))
          refine wpQuiet_nil ?_
          rw [if_pos (by rfl)]
          intro K hK
          go_simp
          refine hK Bd _ _ (Nat.le_refl _) (fun h => absurd rfl h) ?_
          clear hK K
          refine wpSegs_nil rfl ?_
          refine wpQuiet_nil ?_
          refine NoPan.normal ?_
          try simp only [Act.put, List.setIfInBounds_toArray, List.set_cons_zero, List.set_cons_succ]
          go_wp2_with fail
          go_end0
          have hbEl : b < wE.heap.size := hbE.lt
          have hEE : EntsR (wE.setCell ⟨b, 0, none⟩ (.slice A3 (insL l x).length c3)) (.slice A3 (insL l x).length c3) (insL l x) := by
            rw [← hv3]
            exact Own.fr hE3 ((Fr.refl (one b) wE).setCell' (.inl rfl) _) (fun k hk hk2 => by unfold one at hk; have := hr3A k hk2; omega)
          have hBw : Below w.heap.size w wE := by
            have q1 := HW1.out.size
            have q2 := hB2d.size
            exact (HW1.out.trans (hB2d.mono q1)).trans (hFE.below (by omega) (fun k hk => by unfold geB at hk; omega))
          refine ⟨rfl, _, ⟨hbE.set_ 0 _, hEE⟩, (Fr.of_below hBw (one b)).setCell' (.inl rfl) _, fun k hk => ?_⟩
          have q1 := HW1.out.size
          have q2 := hB2d.size
          exact .inr (by have := hr3A k (by rw [hv3]; exact hk); omega)
        · refine wp_run _ _ (exec_bs41 x wA _ _ 34 (by rfl) (by rfl)) ?_
          refine hK Bd _ _ (Nat.le_refl _) (fun _ => (Fr.refl _ wA).alloc _) ?_
          clear hK K
          have hSB : Src (wA.alloc (.cells (entL x).toArray 54)) 5 (some ⟨wA.heap.size, 0, none⟩) 1 (entL x) := Src.of_new wA 54 (entL x).toArray 5 rfl
          have hFB : Fr nob wA (wA.alloc (.cells (entL x).toArray 54)) := (Fr.refl nob wA).alloc _
          obtain ⟨gn, hgn⟩ : ∃ gn, gn = wA.heap.size := ⟨_, rfl⟩
          rw [← hgn] at hSB ⊢
          obtain ⟨wB, hwB⟩ : ∃ wB, wB = wA.alloc (.cells (entL x).toArray 54) := ⟨_, rfl⟩
          rw [← hwB] at hSB hFB ⊢
          clear hgn hwB
          have hS1 := hS1.fr hFB (fun _ _ _ _ h => h)
          have hzB : Bd ≤ wB.heap.size := by have := hFB.size; omega
          try simp only [Act.put, List.setIfInBounds_toArray, List.set_cons_zero, List.set_cons_succ]
          refine wpSegs_cons rfl (List.getElem?_toArray ..) ?_
          simp only [pick, List.filterMap_cons, List.filterMap_nil, List.getElem?_toArray, List.getElem?_cons_succ, List.getElem?_cons_zero]
          refine wpQuiet_nil ?_
          rw [if_pos (by rfl)]
          intro K hK
          refine wp_append_o _ (.const (.slice none 0 0)) (.tmp 32) 41 rfl 54 i0 (.agg (entL default).toArray) 5 56 Try.underlying41 hi0 hz0 hz1 hz2 rfl (by omega) (.slice none 0 0) 0 [] rfl (Own.nil _ _ _) (some ⟨gy, oy, none⟩) k _ (qC (l.take k)) rfl hS1 (qC_one _) (by simp only [maxLen]; omega) (by omega) ?_
          intro v1 wC hown1 hf1 hr1
          rw [Nat.zero_add, List.nil_append] at hown1
          have hF1 : Fr nob wB wC := hf1.mono (fun k _ hk => by cases hk)
          have hr1A : ∀ k, rowOf v1 k → Bd ≤ k := fun k hk => (hr1 k hk).elim (fun h => by cases h) (fun h => by omega)
          refine hK Bd _ _ (Nat.le_refl _) (fun _ => hF1.mono (fun _ _ h => h.elim)) ?_
          clear hK K
          have hownC := hown1
          have hSC := hSB.fr hF1 (fun _ _ _ _ h => h)
          have hFC : Fr nob wA wC := hFB.trans hF1
          try simp only [Act.put, List.setIfInBounds_toArray, List.set_cons_zero, List.set_cons_succ]
          refine wpSegs_cons rfl (List.getElem?_toArray ..) ?_
          simp only [pick, List.filterMap_cons, List.filterMap_nil, List.getElem?_toArray, List.getElem?_cons_succ, List.getElem?_cons_zero]
          refine wpQuiet_nil ?_
          rw [if_pos (by rfl)]
          intro K hK
          refine wp_append_o _ (.tmp 33) (.tmp 35) 41 rfl 54 i0 (.agg (entL default).toArray) 5 56 Try.underlying41 hi0 hz0 hz1 hz2 rfl (by omega) v1 k (qC (l.take k)) rfl hownC (some ⟨gn, 0, none⟩) 1 1 (entL x) rfl hSC (entL_one _) (by simp only [maxLen]; omega) (by omega) ?_
          intro v2 wD hown2 hf2 hr2
          have hzC : Bd ≤ wC.heap.size := by have := hFC.size; omega
          have hr2A : ∀ k, rowOf v2 k → Bd ≤ k := fun k hk => (hr2 k hk).elim (hr1A k) (fun h => by omega)
          have hF2 : Fr (geB Bd) wC wD := hf2.mono (fun k _ hk => hr1A k hk)
          refine hK Bd _ _ (Nat.le_refl _) (fun _ => hF2) ?_
          clear hK K
          have hFD : Fr (geB Bd) wA wD := (hFC.mono (fun _ _ h => h.elim)).trans hF2
          have hzD : Bd ≤ wD.heap.size := by have := hFD.size; omega
          have hS2D := hS2.fr hFD (fun g' o' hm h9 h10 => by
            obtain ⟨g8, o8, h8, hg8, _⟩ := hS2.2 hm
            rw [h8] at h9
            simp only [Option.some.injEq, Addr.mk.injEq] at h9
            obtain ⟨rfl, -⟩ := h9
            unfold geB at h10; omega)
          try simp only [Act.put, List.setIfInBounds_toArray, List.set_cons_zero, List.set_cons_succ]
          refine wpSegs_cons rfl (List.getElem?_toArray ..) ?_
          simp only [pick, List.filterMap_cons, List.filterMap_nil, List.getElem?_toArray, List.getElem?_cons_succ, List.getElem?_cons_zero]
          refine wpQuiet_nil ?_
          rw [if_pos (by rfl)]
          intro K hK
          refine wp_append_o _ (.tmp 36) (.tmp 42) 41 rfl 54 i0 (.agg (entL default).toArray) 5 56 Try.underlying41 hi0 hz0 hz1 hz2 rfl (by omega) v2 (k + 1) (qC (l.take k) ++ entL x) rfl hown2 A2 (n - k) _ (qC (l.drop k)) rfl hS2D (qC_one _) (by simp only [maxLen]; omega) (by omega) ?_
          intro v3 wE hown3 hf3 hr3
          have hr3A : ∀ k, rowOf v3 k → Bd ≤ k := fun k hk => (hr3 k hk).elim (hr2A k) (fun h => by omega)
          have hF3 : Fr (geB Bd) wD wE := hf3.mono (fun k _ hk => hr2A k hk)
          refine hK Bd _ _ (Nat.le_refl _) (fun _ => hF3) ?_
          clear hK K
          have hFE : Fr (geB Bd) wA wE := hFD.trans hF3
          have hbE := hs2d.blk.fr hFE (by unfold geB; omega)
          have hcE : wE.cell? ⟨b, 0, none⟩ = some _ := hbE.cell 0
          have hfE := hbE.frozen 0
          have hqe : qC (l.take k) ++ entL x ++ qC (l.drop k) = qC (insL l x) := by unfold insL; rw [← HN.out, hke, qC_append, qC_cons, List.append_assoc]
          have hle : k + 1 + (n - k) = (insL l x).length := by rw [length_insL, ← HN.out]; omega
          rw [hqe, hle] at hown3
          have hE3 : EntsR wE v3 (insL l x) := hown3
          obtain ⟨A3, c3, hv3, -, -⟩ := hE3.shape
          try simp only [Act.put, List.setIfInBounds_toArray, List.set_cons_zero, List.set_cons_succ]
          refine wpSegs_cons rfl (List.getElem?_toArray ..) ?_
          simp only [pick, List.filterMap_cons, List.filterMap_nil, List.getElem?_toArray, List.getElem?_cons_succ, List.getElem?_cons_zero]
          show wpQuiet _ _ _ _ [_, _] _
          repeat (go_big_quiet_step (fail))
          refine wpQuiet_nil ?_
          rw [if_pos (by rfl)]
          intro K hK
          go_simp
          refine hK Bd _ _ (Nat.le_refl _) (fun h => absurd rfl h) ?_
          clear hK K
          refine wpSegs_nil rfl ?_
          refine wpQuiet_nil ?_
          refine NoPan.normal ?_
          try simp only [Act.put, List.setIfInBounds_toArray, List.set_cons_zero, List.set_cons_succ]
          go_wp2_with fail
          go_end0
          have hbEl : b < wE.heap.size := hbE.lt
          have hEE : EntsR (wE.setCell ⟨b, 0, none⟩ (.slice A3 (insL l x).length c3)) (.slice A3 (insL l x).length c3) (insL l x) := by
            rw [← hv3]
            exact Own.fr hE3 ((Fr.refl (one b) wE).setCell' (.inl rfl) _) (fun k hk hk2 => by unfold one at hk; have := hr3A k hk2; omega)
          have hBw : Below w.heap.size w wE := by
            have q1 := HW1.out.size
            have q2 := hB2d.size
            exact (HW1.out.trans (hB2d.mono q1)).trans (hFE.below (by omega) (fun k hk => by unfold geB at hk; omega))
          refine ⟨rfl, _, ⟨hbE.set_ 0 _, hEE⟩, (Fr.of_below hBw (one b)).setCell' (.inl rfl) _, fun k hk => ?_⟩
          have q1 := HW1.out.size
          have q2 := hB2d.size
          exact .inr (by have := hr3A k (by rw [hv3]; exact hk); omega)
set_option maxRecDepth 100000 in
set_option maxHeartbeats 4000000 in
theorem cut_any (b : Nat) (v : Value) (l : List E) (now : Int) (k : Nat) (w : World) (h : BoxR w b v l now) (hl : l.length ≤ 10) (hk : k < l.length) :
    Calls Try.prog 49 #[rP b, .int .i64 (k : Int)] w fun e w' => e = .returned (.tuple #[]) ∧ RTo b v now w (cutL l k) w' := by
  obtain ⟨i0, hi0, hz0, hz1, hz2⟩ := info_parts infoE54
  obtain ⟨gy, oy, cap, hv, -, hgy, -⟩ := h.ents.at_ k hk
  obtain ⟨A', cap', hv', hc1, hc2⟩ := h.ents.shape
  rw [hv] at hv'
  simp only [Value.slice.injEq] at hv'
  obtain ⟨-, -, rfl⟩ := hv'
  obtain ⟨n, hn⟩ : ∃ n, n = l.length := ⟨_, rfl⟩
  rw [← hn] at hv hc1 hl hk
  have HN := Lib.hid hn
  subst hv
  clear hn
  have hs2d : BoxR w.drew b _ l now := h.keep (Below.refl w.heap.size w).drew
  have hcA : w.drew.cell? ⟨b, 0, none⟩ = some (.slice (some ⟨gy, oy, none⟩) n cap) := hs2d.blk.cell 0
  have hk0 : (0 : Int) ≤ (k : Int) := by omega
  have hkn : (k : Int) + 1 ≤ (n : Int) := by omega
  have hkn' : (k : Int) ≤ (n : Int) := by omega
  have hncap : (n : Int) ≤ (cap : Int) := by omega
  have hn10 : (n : Int) ≤ 10 := by omega
  have hk1 : ((k : Int) + 1).toNat = k + 1 := by omega
  go_enter Try.func49, Try.ntmps49
  go_wp2_with fail
  refine wp_region_grow 18 [([0, 1, 2, 3, 4, 5, 6, 8, 9, 10, 11, 12, 13, 14], 7), ([], 15), ([16, 17], 18)] [] (by kernel_rfl) (by kernel_rfl) ?_
  obtain ⟨Bd, hBd⟩ : ∃ Bd, Bd = w.heap.size := ⟨_, rfl⟩
  have hAB : w.drew.heap.size = Bd := hBd.symm
  rw [← hBd]
  have hBA : Below Bd w w.drew := by rw [hBd]; exact (Below.refl w.heap.size w).drew
  obtain ⟨wA, hwA⟩ : ∃ wA, wA = w.drew := ⟨_, rfl⟩
  rw [← hwA] at hs2d hcA hAB hBA ⊢
  have HBD := Lib.hid hBd
  clear hwA hBd
  have hbB : b < Bd := by have := hs2d.blk.lt; omega
  have hbA : b < wA.heap.size := hs2d.blk.lt
  refine wpSegs_cons rfl (List.getElem?_toArray ..) ?_
  simp only [pick, List.filterMap_cons, List.filterMap_nil, List.getElem?_toArray, List.getElem?_cons_succ, List.getElem?_cons_zero]
  show wpQuiet _ _ _ _ [_, _, _, _, _, _, _, _, _, _, _, _, _, _] _
  repeat (go_big_quiet_step (fail))
  refine wpQuiet_nil ?_
  rw [if_pos (by rfl)]
  intro K hK
  have hS1 : Src wA 5 (some ⟨gy, oy, none⟩) k (qC (l.take k)) := by
    have h9 := Src.part (n := k) hs2d.ents (by rw [← HN.out]) 0 (l.take k) (fun j hj => by
      rw [List.length_take] at hj
      refine ⟨by omega, ?_⟩
      rw [Nat.zero_add]; simp only [List.getD_eq_getElem?_getD]; rw [List.getElem?_take_of_lt (by omega)]) (by rw [List.length_take, ← HN.out]; omega)
    rwa [Nat.zero_mul, Nat.add_zero] at h9
  have hS2 : Src wA 5 (if cap = k + 1 then some ⟨gy, oy, none⟩ else some ⟨gy, oy + (k + 1) * 5, none⟩) (n - (k + 1)) (qC (l.drop (k + 1))) := by
    by_cases hc : cap = k + 1
    · have h9 : n - (k + 1) = 0 := by omega
      refine ⟨by rw [length_qC, List.length_drop, ← HN.out], fun h => by omega⟩
    · rw [if_neg hc]
      exact Src.part (n := n - (k + 1)) hs2d.ents (by rw [← HN.out]) (k + 1) (l.drop (k + 1)) (fun j hj => by
        rw [List.length_drop] at hj
        refine ⟨by omega, ?_⟩
        simp only [List.getD_eq_getElem?_getD, List.getElem?_drop]) (by rw [List.length_drop, ← HN.out])
  obtain ⟨A2, hA2⟩ : ∃ A2, A2 = if cap = k + 1 then (some ⟨gy, oy, none⟩ : Option Addr) else some ⟨gy, oy + (k + 1) * 5, none⟩ := ⟨_, rfl⟩
  rw [← hA2] at hS2 ⊢
  clear hA2
  refine wp_append_o _ (.const (.slice none 0 0)) (.tmp 10) 41 rfl 54 i0 (.agg (entL default).toArray) 5 56 Try.underlying41 hi0 hz0 hz1 hz2 rfl (by omega) (.slice none 0 0) 0 [] rfl (Own.nil _ _ _) (some ⟨gy, oy, none⟩) k _ (qC (l.take k)) rfl hS1 (qC_one _) (by simp only [maxLen]; omega) (by omega) ?_
  intro v1 wB hown1 hf1 hr1
  rw [Nat.zero_add, List.nil_append] at hown1
  have hF1 : Fr nob wA wB := hf1.mono (fun k _ hk => by cases hk)
  have hr1A : ∀ k, rowOf v1 k → Bd ≤ k := fun k hk => (hr1 k hk).elim (fun h => by cases h) (fun h => by omega)
  refine hK Bd _ _ (Nat.le_refl _) (fun _ => hF1.mono (fun _ _ h => h.elim)) ?_
  clear hK K
  have hzB : Bd ≤ wB.heap.size := by have := hF1.size; omega
  have hS2D := hS2.fr hF1 (fun _ _ _ _ h => h)
  try simp only [Act.put, List.setIfInBounds_toArray, List.set_cons_zero, List.set_cons_succ]
  refine wpSegs_cons rfl (List.getElem?_toArray ..) ?_
  simp only [pick, List.filterMap_cons, List.filterMap_nil, List.getElem?_toArray, List.getElem?_cons_succ, List.getElem?_cons_zero]
  refine wpQuiet_nil ?_
  rw [if_pos (by rfl)]
  intro K hK
  refine wp_append_o _ (.tmp 11) (.tmp 18) 41 rfl 54 i0 (.agg (entL default).toArray) 5 56 Try.underlying41 hi0 hz0 hz1 hz2 rfl (by omega) v1 k (qC (l.take k)) rfl hown1 A2 (n - (k + 1)) _ (qC (l.drop (k + 1))) rfl hS2D (qC_one _) (by simp only [maxLen]; omega) (by omega) ?_
  intro v3 wE hown3 hf3 hr3
  have hr3A : ∀ k, rowOf v3 k → Bd ≤ k := fun k hk => (hr3 k hk).elim (hr1A k) (fun h => by omega)
  have hF3 : Fr (geB Bd) wB wE := hf3.mono (fun k _ hk => hr1A k hk)
  refine hK Bd _ _ (Nat.le_refl _) (fun _ => hF3) ?_
  clear hK K
  have hFE : Fr (geB Bd) wA wE := (hF1.mono (fun _ _ h => h.elim)).trans hF3
  have hbE := hs2d.blk.fr hFE (by unfold geB; omega)
  have hcE : wE.cell? ⟨b, 0, none⟩ = some _ := hbE.cell 0
  have hfE := hbE.frozen 0
  have hqe : qC (l.take k) ++ qC (l.drop (k + 1)) = qC (cutL l k) := by unfold cutL; rw [qC_append]
  have hle : k + (n - (k + 1)) = (cutL l k).length := by unfold cutL; rw [List.length_append, List.length_take, List.length_drop, ← HN.out]; omega
  rw [hqe, hle] at hown3
  have hE3 : EntsR wE v3 (cutL l k) := hown3
  obtain ⟨A3, c3, hv3, -, -⟩ := hE3.shape
  try simp only [Act.put, List.setIfInBounds_toArray, List.set_cons_zero, List.set_cons_succ]
  refine wpSegs_cons rfl (List.getElem?_toArray ..) ?_
  simp only [pick, List.filterMap_cons, List.filterMap_nil, List.getElem?_toArray, List.getElem?_cons_succ, List.getElem?_cons_zero]
  show wpQuiet _ _ _ _ [_, _] _
  repeat (go_big_quiet_step (fail))
  refine wpQuiet_nil ?_
  rw [if_pos (by rfl)]
  intro K hK
  go_simp
  refine hK Bd _ _ (Nat.le_refl _) (fun h => absurd rfl h) ?_
  clear hK K
  refine wpSegs_nil rfl ?_
  refine wpQuiet_nil ?_
  refine NoPan.normal ?_
  try simp only [Act.put, List.setIfInBounds_toArray, List.set_cons_zero, List.set_cons_succ]
  go_wp2_with fail
  go_end0
  have hbEl : b < wE.heap.size := hbE.lt
  have hEE : EntsR (wE.setCell ⟨b, 0, none⟩ (.slice A3 (cutL l k).length c3)) (.slice A3 (cutL l k).length c3) (cutL l k) := by
    rw [← hv3]
    exact Own.fr hE3 ((Fr.refl (one b) wE).setCell' (.inl rfl) _) (fun k hk hk2 => by unfold one at hk; have := hr3A k hk2; omega)
  have hBw : Below w.heap.size w wE := by
    rw [← HBD.out]
    exact hBA.trans (hFE.below (by omega) (fun k hk => by unfold geB at hk; omega))
  refine ⟨rfl, _, ⟨hbE.set_ 0 _, hEE⟩, (Fr.of_below hBw (one b)).setCell' (.inl rfl) _, fun k hk => ?_⟩
  exact .inr (by have := hr3A k (by rw [hv3]; exact hk); rw [← HBD.out]; omega)
end Go.Proofs.Ytkagfnocpllcpaa
