/- The law SealTwice: a chain of one part is the seal of it behind the seal of nothing; a part without bytes is a part, too. For every input. -/
import Derived.Test.YtnlkjhhocehhaaaChain
import Derived.Test.YtnlkjhhocehhaaaEq25
import Derived.Test.YtnlkjhhocehhaaaGrow
namespace Go.Proofs.Ytnlkjhhocehhaaa
open Go Go.RowKit Go.Proofs
theorem parts_new {w : World} (t : TypeId) (vs : List Value) (ls : List (List UInt8)) (hl : vs.length = ls.length) (h : ∀ i, i < ls.length → PartAt w (vs.getD i undef) (ls.getD i [])) : Parts (w.alloc (.cells vs.toArray t)) (some ⟨w.heap.size, 0, none⟩) ls := fun _ => by
  refine ⟨_, _, rfl, by simp, fun i hi => ⟨vs.getD i undef, ?_, (h i hi).keep ((Below.refl _ _).alloc (Nat.le_refl _) _)⟩⟩
  rw [(Blk.new w t vs.toArray).cell, Nat.zero_add]
  simp [show i < vs.length by omega]
end Go.Proofs.Ytnlkjhhocehhaaa
namespace Go.Proofs.Ytnlkjhhocehhaaa.sealTwice
open Go Go.RowKit Go.Proofs Go.Proofs.Ytnlkjhhocehhaaa Sha
set_option linter.unusedVariables false
set_option maxRecDepth 100000 in
set_option maxHeartbeats 4000000 in
theorem walk (a0 : Option Addr) (len0 cap0 : Nat) (z0 : List Int) (a1 : Option Addr) (len1 cap1 : Nat) (z1 : List Int) (w : World) (w0 : IsRow .u8 w a0 len0 cap0 z0) (w1 : IsRow .u8 w a1 len1 cap1 z1) :
    Calls Try.prog 12 #[.slice a0 len0 cap0, .slice a1 len1 cap1] w fun e w' => e = .returned (.bool true) ∧ Below w.heap.size w w' := by
  obtain ⟨n, k, Hn, hn, hnc, hkl, hbk, hle0, hc0, -, HE0⟩ := early_arg w0
  obtain ⟨m, x, Hm, hm, hmc, hxl, hbx, hle1, hc1, -, HE1⟩ := early_arg w1
  clear w0 w1
  obtain ⟨i0, hi0, hz0, hz1, hz2⟩ := info_parts info5
  obtain ⟨D0, HD0⟩ : ∃ D0, Hid (D0 = sealOf k []) := ⟨_, Lib.hid rfl⟩
  obtain ⟨D1, HD1⟩ : ∃ D1, Hid (D1 = chainOf k [x]) := ⟨_, Lib.hid rfl⟩
  obtain ⟨D2, HD2⟩ : ∃ D2, Hid (D2 = chainOf k [x, []]) := ⟨_, Lib.hid rfl⟩
  have L0 : Hid (D0.length = 32) := Lib.hid (by rw [HD0.out]; exact length_seal _ _)
  have L1 : Hid (D1.length = 32) := Lib.hid (by rw [HD1.out]; exact length_chainOf _ _)
  have L2 : Hid (D2.length = 32) := Lib.hid (by rw [HD2.out]; exact length_chainOf _ _)
  have E1 : Hid (sealOf k (D0 ++ x) = D1) := Lib.hid (by rw [HD0.out, HD1.out]; rfl)
  have E2 : Hid (sealOf k D1 = D2) := Lib.hid (by rw [HD1.out, HD2.out]; show _ = sealOf k (chainOf k [x] ++ []); rw [List.append_nil])
  have hP : ∀ W, Bytes W a1 x → PartAt W (.slice a1 m cap1) x := fun W h => ⟨a1, cap1, by rw [Hm.out], by have := Hm.out; omega, by omega, h⟩
  have hP0 : ∀ W, PartAt W (.slice none 0 0) [] := fun W => ⟨none, 0, rfl, Nat.le_refl _, by simp [maxLen], Bytes.nil _ _⟩
  have HP := Lib.hid hP
  have HP0 := Lib.hid hP0
  clear hP hP0
  go_enter Try.func12, Try.ntmps12
  go_wp2_with (first
    | (go_at_call 33
       refine (lives33 w).mono ?_
       rintro e w1 ⟨rfl, hb1⟩)
    | (go_at_call 34
       first
       | (refine (HE0.out w1).mono ?_
          rintro e w1' ⟨rfl, rfl⟩
          clear HE0)
       | (refine (HE1.out w1).mono ?_
          rintro e w1' ⟨rfl, rfl⟩
          clear HE1
          have hk0 := seal_any k [] a0 none n cap0 0 0 w1 Hn.out rfl (hbk.keep hb1) (Bytes.nil _ _) (by omega) (by simp)
          rw [← HD0.out] at hk0
          have HK := Lib.hid hk0
          clear hk0))
    | (go_at_call 35
       refine HK.out.mono ?_
       rintro e w2 ⟨rfl, hb2⟩
       have hB2 : Below w.heap.size w w2 := hb1.trans (hb2.mono hb1.size)
       clear HK)
    | (with_reducible refine wpList_alloc_run rfl 25 rfl zeroOut alloc25 ?_)
    | (refine wpList_store_blk rfl 25 (.tmp 5) (.tmp 15) rfl w2.heap.size 25 zeroOut (digV D0) rfl rfl (Blk.new w2 25 zeroOut) (zero_digV _ L0.out) (info_digV _ L0.out) (one_digV _) ?_
       intro w3 hb3 hf3
       have hF3 : Fr nob w2 w3 := ((Fr.refl nob w2).alloc (.cells zeroOut 25)).then hf3 (fun i hi => Or.inr (by unfold one at hi; omega))
       have hB3 : Below w.heap.size w w3 := hB2.trans (hF3.below_nob.mono hB2.size)
       have hB3a := hB3.alloc hB3.size (.cells #[.slice a1 m cap1] 22)
       have hk1 := chain_any k a0 n cap0 Hn.out (by omega) 1 [x] (some ⟨w3.heap.size, 0, none⟩) 1 (w3.alloc (.cells #[.slice a1 m cap1] 22)) rfl (by omega) (by simp [maxLen])
         (parts_new 22 [.slice a1 m cap1] [x] rfl (fun i hi => by
           obtain rfl : i = 0 := by simpa using hi
           exact HP.out _ (hbx.keep hB3))) (by simp; omega) (hbk.keep hB3a)
       rw [← HD1.out] at hk1
       have HK1 := Lib.hid hk1
       clear hk1)
    | (go_at_call 41
       first
       | (refine HK1.out.mono ?_
          rintro e w4 ⟨rfl, hb4⟩
          have hB4 : Below w.heap.size w w4 := hB3a.trans (hb4.mono hB3a.size)
          have h54 := (hb3.alloc (.cells #[.slice a1 m cap1] 22)).below hb4 (hb3.alloc (.cells #[.slice a1 m cap1] 22)).lt
          clear HK1)
       | (refine HK2.out.mono ?_
          rintro e w6 ⟨rfl, hb6⟩
          have hB6 : Below w.heap.size w w6 := hB5a.trans (hb6.mono hB5a.size)
          have h56 := (h55.alloc (.cells #[.slice a1 m cap1, .slice none 0 0] 22)).below hb6 (h55.alloc (.cells #[.slice a1 m cap1, .slice none 0 0] 22)).lt
          have h66 := (hb5.alloc (.cells #[.slice a1 m cap1, .slice none 0 0] 22)).below hb6 (hb5.alloc (.cells #[.slice a1 m cap1, .slice none 0 0] 22)).lt
          clear HK2))
    | (refine wpList_store_blk rfl 25 (.tmp 6) (.tmp 19) rfl w4.heap.size 25 zeroOut (digV D1) rfl rfl (Blk.new w4 25 zeroOut) (zero_digV _ L1.out) (info_digV _ L1.out) (one_digV _) ?_
       intro w5 hb5 hf5
       have hF5 : Fr nob w4 w5 := ((Fr.refl nob w4).alloc (.cells zeroOut 25)).then hf5 (fun i hi => Or.inr (by unfold one at hi; omega))
       have hB5 : Below w.heap.size w w5 := hB4.trans (hF5.below_nob.mono hB4.size)
       have h55 := h54.fr hF5 (fun h => h)
       have hB5a := hB5.alloc hB5.size (.cells #[.slice a1 m cap1, .slice none 0 0] 22)
       have hk2 := chain_any k a0 n cap0 Hn.out (by omega) 2 [x, []] (some ⟨w5.heap.size, 0, none⟩) 2 (w5.alloc (.cells #[.slice a1 m cap1, .slice none 0 0] 22)) rfl (by omega) (by simp [maxLen])
         (parts_new 22 [.slice a1 m cap1, .slice none 0 0] [x, []] rfl (fun i hi => by
           match i, hi with
           | 0, _ => exact HP.out _ (hbx.keep hB5)
           | 1, _ => exact HP0.out _)) (by simp; omega) (hbk.keep hB5a)
       rw [← HD2.out] at hk2
       have HK2 := Lib.hid hk2
       clear hk2)
    | (refine wpList_store_blk rfl 25 (.tmp 7) (.tmp 23) rfl w6.heap.size 25 zeroOut (digV D2) rfl rfl (Blk.new w6 25 zeroOut) (zero_digV _ L2.out) (info_digV _ L2.out) (one_digV _) ?_
       intro w7 hb7 hf7
       have hF7 : Fr nob w6 w7 := ((Fr.refl nob w6).alloc (.cells zeroOut 25)).then hf7 (fun i hi => Or.inr (by unfold one at hi; omega))
       have hB7 : Below w.heap.size w w7 := hB6.trans (hF7.below_nob.mono hB6.size)
       have h57 := h56.fr hF7 (fun h => h)
       have h67 := h66.fr hF7 (fun h => h))
    | fail)
  try simp only [Act.put, List.setIfInBounds_toArray, List.set_cons_zero, List.set_cons_succ]
  have hB7d : Below w.heap.size w w7.drew := hB7.trans ((Below.refl w7.heap.size w7).drew.mono hB7.size)
  have h57d := h57.drew
  have h67d := h67.drew
  have h77d := hb7.drew
  clear h57 h67 hb7 hB7 hF7 hf7 h56 h66 hB6 hb6 hB5a h55 hb5 hB5 hF5 hf5 h54 hB4 hb4 hB3a hb3 hF3 hf3 hB3 hB2 hb2 hb1 HP HP0
  refine wp_region_grow 16 [([0, 1, 2, 4], 3), ([], 5), ([], 6), ([7, 8, 9, 10, 11], 12)] [13, 14, 15] (by kernel_rfl) (by kernel_rfl) ?_
  have hAB : w7.drew.heap.size = w7.heap.size := rfl
  obtain ⟨B, hB⟩ : ∃ B, B = w7.heap.size := ⟨_, rfl⟩
  rw [← hB] at hAB ⊢
  have hBw : w.heap.size ≤ B := by rw [hB]; exact hB7d.size
  obtain ⟨wA, hwA⟩ : ∃ wA, wA = w7.drew := ⟨_, rfl⟩
  obtain ⟨g5, hg5⟩ : ∃ g5, g5 = w2.heap.size := ⟨_, rfl⟩
  obtain ⟨g6, hg6⟩ : ∃ g6, g6 = w4.heap.size := ⟨_, rfl⟩
  obtain ⟨g7, hg7⟩ : ∃ g7, g7 = w6.heap.size := ⟨_, rfl⟩
  rw [← hwA] at hB7d h57d h67d h77d hAB ⊢
  rw [← hg5] at h57d ⊢
  rw [← hg6] at h67d ⊢
  rw [← hg7] at h77d ⊢
  clear hwA hg5 hg6 hg7 hB
  have hl5 : g5 < B := by have := h57d.lt; omega
  have hl6 : g6 < B := by have := h67d.lt; omega
  have hl7 : g7 < B := by have := h77d.lt; omega
  have heq1 := fun W => eq25 D1 D1 L1.out L1.out W
  have heq2 := fun W => eq25 D2 D2 L2.out L2.out W
  simp only [decide_true] at heq1 heq2
  refine wpSegs_cons rfl (List.getElem?_toArray ..) ?_
  simp only [pick, List.filterMap_cons, List.filterMap_nil, List.getElem?_toArray, List.getElem?_cons_succ, List.getElem?_cons_zero]
  show wpQuiet _ _ _ _ [_, _, _, _] _
  go_big_quiet_want
  refine quiet_load_blk 25 (.tmp 6) rfl g6 25 (byteVals D1).toArray _ rfl (Kept.blk h67d hl6) Try.underlying25 rfl (info_digV _ L1.out) ?_
  go_big_quiet_on
  try simp only [Act.put, List.setIfInBounds_toArray, List.set_cons_zero, List.set_cons_succ]
  repeat (go_big_quiet_step (fail))
  refine wpQuiet_nil ?_
  rw [if_pos (by rfl)]
  intro K hK
  refine wp_append_o _ (.const (.slice none 0 0)) (.tmp 26) 22 rfl 5 i0 (.int .u8 0) 1 1 Try.underlying22 hi0 hz0 hz1 hz2 rfl (by omega) (.slice none 0 0) 0 [] rfl (Own.nil _ _ _) (some ⟨g5, 0, none⟩) 32 32 (byteVals D0) rfl (by have := bytes_digV h57d; unfold Bytes at this; rwa [L0.out] at this) (byteVals_one _) (by simp only [maxLen]; omega) (by omega) ?_
  intro v1 wB hown1 hf1 hr1
  rw [Nat.zero_add, List.nil_append] at hown1
  have hFB : Fr nob wA wB := hf1.mono (fun k _ hk => by cases hk)
  have hBB : Below w.heap.size w wB := hB7d.trans (hFB.below_nob.mono hB7d.size)
  have h6B := h67d.fr hFB (fun h => h)
  have h7B := h77d.fr hFB (fun h => h)
  have hr1' : ∀ k, rowOf v1 k → w.heap.size ≤ k := fun k hk => (hr1 k hk).elim (fun h => by cases h) (fun h => by have := hB7d.size; omega)
  have hr1A : ∀ k, rowOf v1 k → wA.heap.size ≤ k := fun k hk => (hr1 k hk).elim (fun h => by cases h) id
  refine hK B _ _ (Nat.le_refl _) (fun _ => hFB.mono (fun _ _ h => h.elim)) ?_
  clear hK K hr1
  try simp only [Act.put, List.setIfInBounds_toArray, List.set_cons_zero, List.set_cons_succ]
  refine wpSegs_cons rfl (List.getElem?_toArray ..) ?_
  simp only [pick, List.filterMap_cons, List.filterMap_nil, List.getElem?_toArray, List.getElem?_cons_succ, List.getElem?_cons_zero]
  refine wpQuiet_nil ?_
  rw [if_pos (by rfl)]
  intro K hK
  refine wp_append_o _ (.tmp 27) (.tmp 28) 22 rfl 5 i0 (.int .u8 0) 1 1 Try.underlying22 hi0 hz0 hz1 hz2 rfl (by omega) v1 32 (byteVals D0) rfl hown1 a1 m cap1 (byteVals x) rfl (by have := hbx.keep hBB; unfold Bytes at this; rwa [← Hm.out] at this) (byteVals_one _) (by simp only [maxLen]; omega) (by omega) ?_
  intro v2 wC hown2 hf2 hr2
  obtain ⟨A2, cap2, rfl, hc21, hc22⟩ := hown2.shape
  have hFC : Fr (geB B) wB wC := hf2.mono (fun k _ hk => by have := hr1A k hk; unfold geB; omega)
  have hBC : Below w.heap.size w wC := hBB.trans (hFC.below hBB.size (fun k hk => by unfold geB at hk; omega))
  have h6C := h6B.fr hFC (geB_not hl6)
  have h7C := h7B.fr hFC (geB_not hl7)
  have hyC : Bytes wC A2 (D0 ++ x) := by
    have h := Src.of_own hown2
    have e : (D0 ++ x).length = 32 + m := by rw [List.length_append, L0.out, ← Hm.out]
    unfold Bytes
    rw [e, byteVals_append]; exact h
  have hk3 := seal_any k (D0 ++ x) a0 A2 n cap0 (32 + m) cap2 wC Hn.out (by rw [List.length_append, L0.out, ← Hm.out]) (hbk.keep hBC) hyC (by omega) (by rw [List.length_append, L0.out]; omega)
  rw [E1.out] at hk3
  have HK3 := Lib.hid hk3
  clear hk3
  refine hK B _ _ (Nat.le_refl _) (fun _ => hFC) ?_
  clear hK K hr2 hr1A hr1'
  try simp only [Act.put, List.setIfInBounds_toArray, List.set_cons_zero, List.set_cons_succ]
  refine wpSegs_cons rfl (List.getElem?_toArray ..) ?_
  simp only [pick, List.filterMap_cons, List.filterMap_nil, List.getElem?_toArray, List.getElem?_cons_succ, List.getElem?_cons_zero]
  refine wpQuiet_nil ?_
  rw [if_pos (by rfl)]
  intro K hK
  go_simp
  go_at_call 35
  refine HK3.out.mono ?_
  rintro e wD ⟨rfl, hbD⟩
  have hBD : Below w.heap.size w wD := hBC.trans (hbD.mono hBC.size)
  have h6D := h6C.below hbD h6C.lt
  have h7D := h7C.below hbD h7C.lt
  refine hK B _ _ (Nat.le_refl _) (fun _ => Fr.of_below hbD _) ?_
  clear hK K HK3
  try simp only [Act.put, List.setIfInBounds_toArray, List.set_cons_zero, List.set_cons_succ]
  refine wpSegs_cons rfl (List.getElem?_toArray ..) ?_
  simp only [pick, List.filterMap_cons, List.filterMap_nil, List.getElem?_toArray, List.getElem?_cons_succ, List.getElem?_cons_zero]
  show wpQuiet _ _ _ _ [_, _, _, _, _] _
  repeat (go_big_quiet_step (fail))
  go_big_quiet_want
  refine quiet_load_blk 25 (.tmp 7) rfl g7 25 (byteVals D2).toArray _ rfl (Kept.blk h7D hl7) Try.underlying25 rfl (info_digV _ L2.out) ?_
  go_big_quiet_on
  try simp only [Act.put, List.setIfInBounds_toArray, List.set_cons_zero, List.set_cons_succ]
  repeat (go_big_quiet_step (fail))
  refine wpQuiet_nil ?_
  rw [if_pos (by rfl)]
  intro K hK
  have hk4 := seal_any k D1 a0 (some ⟨g6, 0, none⟩) n cap0 32 32 wD Hn.out L1.out.symm (hbk.keep hBD) (bytes_digV h6D) (by omega) (by rw [L1.out]; omega)
  rw [E2.out] at hk4
  have HK4 := Lib.hid hk4
  clear hk4
  go_simp
  go_at_call 35
  refine HK4.out.mono ?_
  rintro e wE ⟨rfl, hbE⟩
  have hBE : Below w.heap.size w wE := hBD.trans (hbE.mono hBD.size)
  refine hK B _ _ (Nat.le_refl _) (fun _ => Fr.of_below hbE _) ?_
  clear hK K HK4
  try simp only [Act.put, List.setIfInBounds_toArray, List.set_cons_zero, List.set_cons_succ]
  refine wpSegs_nil rfl ?_
  simp only [pick, List.filterMap_cons, List.filterMap_nil, List.getElem?_toArray, List.getElem?_cons_succ, List.getElem?_cons_zero]
  show wpQuiet _ _ _ _ [_, _, _] _
  repeat (go_big_quiet_step (fail))
  refine wpQuiet_nil ?_
  refine NoPan.normal ?_
  go_wp2_with fail
  go_ret
  exact ⟨rfl, hBE⟩
end Go.Proofs.Ytnlkjhhocehhaaa.sealTwice
