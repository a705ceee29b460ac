/- The law SealParts: the key of a name is the seal of its bytes, a byte 0 ahead; a header is a seal's signs. For every input. -/
import Derived.Test.YtnlkjhhocehhaaaHeader
import Derived.Test.YtnlkjhhocehhaaaEq25
import Derived.Test.YtnlkjhhocehhaaaBack
import Derived.Deep.RegionHeld3
namespace Go.Proofs.Ytnlkjhhocehhaaa.sealParts
open Go Go.RowKit Go.Proofs Go.Proofs.Ytnlkjhhocehhaaa Sha
set_option linter.unusedVariables false
/-- What the last region keeps. -/
structure Inv (w W : World) (g7 g8 : Nat) (k x y : List UInt8) : Prop where
  bel : Below w.heap.size w W
  b7 : Blk W g7 25 (sealV k y)
  b8 : Blk W g8 25 (sealV k x)
theorem Inv.keep {w W W' : World} {g7 g8 : Nat} {k x y : List UInt8} (h : Inv w W g7 g8 k x y) (hb : Below W.heap.size W W') : Inv w W' g7 g8 k x y :=
  ⟨h.bel.trans (hb.mono h.bel.size), h.b7.below hb h.b7.lt, h.b8.below hb h.b8.lt⟩
theorem Inv.conv {w W : World} {g7 g8 : Nat} {k x y : List UInt8} (h : Inv w W g7 g8 k x y) : (convert 22 9 (.slice (some ⟨g7, 0, none⟩) 32 32)).run Try.prog W = .ok (.string ⟨(sealOf k y).toArray⟩) W :=
  back_text W _ 32 32 (sealOf k y) (length_seal _ _).symm (bytes_sealV h.b7)
set_option maxRecDepth 100000 in
set_option maxHeartbeats 2000000 in
theorem walk (a0 : Option Addr) (len0 cap0 : Nat) (z0 : List Int) (a1 : Option Addr) (len1 cap1 : Nat) (z1 : List Int) (a2 : ByteArray) (w : World) (w0 : IsRow .u8 w a0 len0 cap0 z0) (w1 : IsRow .u8 w a1 len1 cap1 z1) (w2 : a2.size ≤ maxLen) :
    Calls Try.prog 10 #[.slice a0 len0 cap0, .slice a1 len1 cap1, .string a2] w fun e w' => e = .returned (.bool true) ∧ Below w.heap.size w w' := by
  obtain ⟨n, k, Hn, hn, hnc, hkl, hbk, hle0, hc0, -, HE0⟩ := early_arg w0
  obtain ⟨m, x, Hm, hm, hmc, hxl, hbx, hle1, hc1, -, HE1⟩ := early_arg w1
  clear w0 w1
  obtain ⟨i0, hi0, hz0, hz1, hz2⟩ := info_parts info5
  obtain ⟨q, hq⟩ : ∃ q, q = min a2.size 100 := ⟨_, rfl⟩
  obtain ⟨s, hs⟩ : ∃ s, s = a2.extract 0 q := ⟨_, rfl⟩
  have hsq : s.size = q := by rw [hs, ByteArray.size_extract]; omega
  have hq100 : s.size ≤ 100 := by omega
  have hqt : (min (a2.size : Int) 100).toNat = q := by omega
  have Hs := Lib.hid hs
  obtain ⟨y, hy⟩ : ∃ y, y = 0 :: strBytes s := ⟨_, rfl⟩
  have hyl : y.length = 1 + s.size := by rw [hy]; simp [strBytes]; omega
  have Hy := Lib.hid hy
  have Hyl := Lib.hid hyl
  clear hs hq hy hyl hsq
  go_enter Try.func10, Try.ntmps10
  go_wp2_with (first
    | (go_at_call 33
       refine (lives33 w).mono ?_
       rintro e w1 ⟨rfl, hb1⟩)
    | fail)
  refine wp_region_quiet_below (by kernel_rfl) (by kernel_rfl) ?_
  repeat (go_big_quiet_step (first
    | (go_at_call 34; exact regrown_same (HE0.out _))
    | (go_at_call 34; exact regrown_same (HE1.out _))))
  refine wpQuiet_nil ?_
  intro w2 hw2
  have hb2 := Re.below hw2
  have hB2 : Below w.heap.size w w2 := hb1.trans (hb2.mono hb1.size)
  rw [← Hs.out]
  clear hqt Hs HE0 HE1
  go_wp2_with (first
    | (refine Lib.wpList_append_own_string _ rfl (.tmp 21) (.tmp 22) 22 9 rfl w2.heap.size 5 i0 Try.underlying22 Try.underlying9 hi0 hz0 hz1 hz2 (.slice (some ⟨w2.heap.size, 0, none⟩) 1 1) 1 (byteVals [0]) rfl (owns_new w2 [0] 1 rfl (by simp [maxLen])) s rfl (by simp [maxLen]; omega) (by omega) (by simp) ?_
       intro v w3 hown hgr _
       obtain ⟨A1, cap1', rfl, hc1', hc2'⟩ := (Own.of_owns hown).shape
       have hF3 : Fr nob w2 w3 := ((Fr.refl nob w2).alloc (.cells #[.int .u8 0] 5)).then (Fr.of_grown hgr (S := fun k => w2.heap.size ≤ k) (fun k hk => by cases hk; exact Nat.le_refl _)) (fun i hi => Or.inr hi)
       have hB3 : Below w.heap.size w w3 := hB2.trans (hF3.below_nob.mono hB2.size)
       have hy1 : Bytes w3 A1 y := by
         rw [Hy.out]
         have := Src.of_own (Own.of_owns hown)
         rw [strCells_bytes, ← byteVals_append] at this
         have e : (0 :: strBytes s).length = 1 + s.size := by rw [← Hy.out]; exact Hyl.out
         unfold Bytes
         rw [e]; exact this
       have HK := Lib.hid (seal_any k y a0 A1 n cap0 (1 + s.size) cap1' w3 Hn.out Hyl.out.symm (hbk.keep hB3) hy1 (by omega) (by have := Hyl.out; omega)))
    | (go_at_call 35
       first
       | (refine HK.out.mono ?_
          rintro e w4 ⟨rfl, hb4⟩
          have hB4 : Below w.heap.size w w4 := hB3.trans (hb4.mono hB3.size)
          clear HK)
       | (refine HK2.out.mono ?_
          rintro e w6 ⟨rfl, hb6⟩
          have hB6 : Below w.heap.size w w6 := hB5.trans (hb6.mono hB5.size)
          have h76 := hb7.below hb6 hb7.lt))
    | (with_reducible refine wpList_alloc_run rfl 25 rfl zeroOut alloc25 ?_)
    | (refine wpList_store_blk rfl 25 (.tmp 7) (.tmp 24) rfl w4.heap.size 25 zeroOut (sealV k y) rfl rfl (Blk.new w4 25 zeroOut) (zero_sealV _ _) (info_sealV _ _) (one_sealV _ _) ?_
       intro w5 hb7 hf5
       have hF5 : Fr nob w4 w5 := ((Fr.refl nob w4).alloc (.cells zeroOut 25)).then hf5 (fun i hi => Or.inr (by unfold one at hi; omega))
       have hB5 : Below w.heap.size w w5 := hB4.trans (hF5.below_nob.mono hB4.size)
       have HK2 := Lib.hid (seal_any k x a0 a1 n cap0 m cap1 w5 Hn.out Hm.out (hbk.keep hB5) (hbx.keep hB5) (by omega) (by omega)))
    | (refine wpList_store_blk rfl 25 (.tmp 8) (.tmp 27) rfl w6.heap.size 25 zeroOut (sealV k x) rfl rfl (Blk.new w6 25 zeroOut) (zero_sealV _ _) (info_sealV _ _) (one_sealV _ _) ?_
       intro w7 hb8 hf7
       have hF7 : Fr nob w6 w7 := ((Fr.refl nob w6).alloc (.cells zeroOut 25)).then hf7 (fun i hi => Or.inr (by unfold one at hi; omega))
       have hB7 : Below w.heap.size w w7 := hB6.trans (hF7.below_nob.mono hB6.size)
       have hI : Inv w w7 w4.heap.size w6.heap.size k x y := ⟨hB7, h76.fr hF7 (fun h => h), hb8⟩)
    | fail)
  simp only [Act.put, List.setIfInBounds_toArray, List.set_cons_zero, List.set_cons_succ]
  have hId : Inv w w7.drew w4.heap.size w6.heap.size k x y := hI.keep (Below.refl _ _).drew
  obtain ⟨g7, hg7⟩ : ∃ g7, g7 = w4.heap.size := ⟨_, rfl⟩
  obtain ⟨g8, hg8⟩ : ∃ g8, g8 = w6.heap.size := ⟨_, rfl⟩
  rw [← hg7, ← hg8] at hId ⊢
  have hcv0 := hId.conv
  have HW : Hid (∀ W, Inv w W g7 g8 k x y → Calls Try.prog 37 #[.slice a0 n cap0, .slice a1 m cap1] W fun e w' => e = .returned (.string ⟨(headerOf k x).toArray⟩) ∧ Below W.heap.size W w') :=
    Lib.hid (fun W h => header_any k x a0 a1 n cap0 m cap1 W Hn.out Hm.out (hbk.keep h.bel) (hbx.keep h.bel) (by omega) (by omega))
  have HX : Hid (∀ W, Inv w W g7 g8 k x y → Calls Try.prog 31 #[.slice (some ⟨g8, 0, none⟩) 32 32] W fun e w' => e = .returned (.string ⟨(hexOf (sealOf k x)).toArray⟩) ∧ Below W.heap.size W w') :=
    Lib.hid (fun W h => hex_any (some ⟨g8, 0, none⟩) 32 32 (sealOf k x) W (length_seal _ _).symm (bytes_sealV h.b8) (by rw [length_seal]; omega))
  have HY : Hid (∀ W, Inv w W g7 g8 k x y → Calls Try.prog 39 #[.slice a0 n cap0, .string s] W fun e w' => ∃ g, e = .returned (.slice (some ⟨g, 0, none⟩) 32 32) ∧ Below W.heap.size W w' ∧ (convert 22 9 (.slice (some ⟨g, 0, none⟩) 32 32)).run Try.prog w' = .ok (.string ⟨(sealOf k y).toArray⟩) w') :=
    Lib.hid (fun W h => (key_any k s a0 n cap0 W Hn.out (hbk.keep h.bel) (by omega) (by omega)).mono (by
      rintro e w' ⟨g, rfl, h1, h2, h3⟩
      rw [← Hy.out] at h1
      exact ⟨g, rfl, h3, back_text w' _ 32 32 (sealOf k y) (length_seal _ _).symm (bytes_sealV h1)⟩))
  clear hI hB7 hF7 hf7 hb8 h76 hB6 hb6 hB5 hF5 hf5 hb7 hB4 hb4 hg7 hg8
  obtain ⟨H, hH⟩ : ∃ H : ByteArray, H = ⟨(hexOf (sealOf k x)).toArray⟩ := ⟨_, rfl⟩
  have hHs : H.size = 64 := by rw [hH]; show (hexOf (sealOf k x)).toArray.size = 64; simp [length_hexOf, length_seal]
  have hHd : (⟨(headerOf k x).toArray⟩ : ByteArray) = ⟨#[115, 104, 97, 50, 53, 54, 61]⟩ ++ H := by rw [headerOf, ← str_append, hH]
  rw [hHd] at HW
  rw [← hH] at HX
  clear hH hHd
  go_region_with (first
    | (go_at_call 39
       refine (HY.out _ (by assumption)).mono ?_
       rintro e wN ⟨gN, rfl, hbN, hcN⟩
       have hIN : Inv w wN g7 g8 k x y := Inv.keep (by assumption) hbN
       have hcdN := hIN.conv)
    | (go_at_call 37
       refine (HW.out _ (by assumption)).mono ?_
       rintro e wN ⟨rfl, hbN⟩
       have hIN : Inv w wN g7 g8 k x y := Inv.keep (by assumption) hbN)
    | (go_at_call 31
       refine (HX.out _ (by assumption)).mono ?_
       rintro e wN ⟨rfl, hbN⟩
       have hIN : Inv w wN g7 g8 k x y := Inv.keep (by assumption) hbN)
    | fail)
  all_goals
    go_wp2_with fail
    go_ret
    exact ⟨rfl, Inv.bel (by assumption : Inv w _ g7 g8 k x y)⟩
end Go.Proofs.Ytnlkjhhocehhaaa.sealParts
