/- The contracts of the reference's Header and Key. -/
import Derived.Test.YtnlkjhhocehhaaaRefSeal
namespace Go.Proofs.Ytnlkjhhocehhaaa
set_option linter.unusedVariables false
open Go Go.RowKit Go.Proofs Sha
set_option maxRecDepth 100000 in
set_option maxHeartbeats 1000000 in
theorem rheader_any (k x : List UInt8) (A B : Option Addr) (n c m d : Nat) (w : World) (hn : n = k.length) (hm : m = x.length) (hk : Bytes w A k) (hx : Bytes w B x) (hk1 : k.length ≤ 300000000) (hx1 : x.length ≤ 300000000) :
    Calls Try.prog 38 #[.slice A n c, .slice B m d] w fun e w' => e = .returned (.string ⟨(headerOf k x).toArray⟩) ∧ Below w.heap.size w w' := by
  have HK := Lib.hid (rseal_any k x A B n c m d w hn hm hk hx hk1 hx1)
  clear hn hm
  go_enter Try.func38, Try.ntmps38
  go_wp2_with (first
    | (go_at_call 36
       refine HK.out.mono ?_
       rintro e w1 ⟨rfl, hb1⟩
       have hB1 : Below w.heap.size w w1 := hb1)
    | (with_reducible refine wpList_alloc_run rfl 25 rfl zeroOut alloc25 ?_)
    | (refine wpList_store_blk rfl 25 (.tmp 5) (.tmp 8) rfl w1.heap.size 25 zeroOut (sealV k x) rfl rfl (Blk.new w1 25 zeroOut) (zero_sealV _ _) (info_sealV _ _) (one_sealV _ _) ?_
       intro w2 hb2 hf2
       have hF2 : Fr nob w1 w2 := ((Fr.refl nob w1).alloc (.cells zeroOut 25)).then hf2 (fun i hi => Or.inr (by unfold one at hi; omega))
       have hB2 : Below w.heap.size w w2 := hB1.trans (hF2.below_nob.mono hB1.size))
    | (go_at_call 32
       refine (refhex_any (some ⟨w1.heap.size, 0, none⟩) 32 32 (sealOf k x) w2 (length_seal _ _).symm (bytes_sealV hb2) (by rw [length_seal]; omega)).mono ?_
       rintro e w3 ⟨rfl, hb3⟩
       obtain ⟨S, hS⟩ : ∃ S : ByteArray, S = ⟨(hexOf (sealOf k x)).toArray⟩ := ⟨_, rfl⟩
       have hSs : S.size = 64 := by rw [hS]; show (hexOf (sealOf k x)).toArray.size = 64; simp [length_hexOf, length_seal]
       rw [← hS]
       have HS := Lib.hid hS
       clear hS)
    | fail)
  go_ret
  exact ⟨by rw [headerOf, ← str_append, ← HS.out]; rfl, hB2.trans (hb3.mono hB2.size)⟩
set_option maxRecDepth 100000 in
theorem rkey_any (k : List UInt8) (s : ByteArray) (A : Option Addr) (n c : Nat) (w : World) (hn : n = k.length) (hk : Bytes w A k) (hk1 : k.length ≤ 300000000) (hs : s.size ≤ 200000000) :
    Calls Try.prog 40 #[.slice A n c, .string s] w fun e w' => ∃ g, e = .returned (.slice (some ⟨g, 0, none⟩) 32 32) ∧ Blk w' g 25 (sealV k (0 :: strBytes s)) ∧ w.heap.size ≤ g ∧ Below w.heap.size w w' := by
  obtain ⟨i0, hi0, hz0, hz1, hz2⟩ := info_parts info5
  have Hn := Lib.hid hn
  clear hn
  have Hk := Lib.hid hk
  obtain ⟨y, hy⟩ : ∃ y, y = 0 :: strBytes s := ⟨_, rfl⟩
  have hyl : y.length = 1 + s.size := by rw [hy]; simp [strBytes]; omega
  rw [← hy]
  have Hy := Lib.hid hy
  have Hyl := Lib.hid hyl
  clear hy hyl
  go_enter Try.func40, Try.ntmps40
  go_wp2_with (first
    | (refine Lib.wpList_append_own_string _ rfl (.tmp 7) (.tmp 8) 22 9 rfl w.heap.size 5 i0 Try.underlying22 Try.underlying9 hi0 hz0 hz1 hz2 (.slice (some ⟨w.heap.size, 0, none⟩) 1 1) 1 (byteVals [0]) rfl (owns_new w [0] 1 rfl (by simp [maxLen])) s rfl (by simp [maxLen]; omega) (by omega) (by simp) ?_
       intro v w1 hown hgr _
       obtain ⟨A1, cap1, rfl, hc1, hc2⟩ := (Own.of_owns hown).shape
       have hF1 : Fr nob w w1 := ((Fr.refl nob w).alloc (.cells #[.int .u8 0] 5)).then (Fr.of_grown hgr (S := fun k => w.heap.size ≤ k) (fun k hk => by cases hk; exact Nat.le_refl _)) (fun i hi => Or.inr hi)
       have hk1' : Bytes w1 A k := Hk.out.keep hF1.below_nob
       have hy1 : Bytes w1 A1 y := by
         rw [Hy.out]
         have := Src.of_own (Own.of_owns hown)
         rw [strCells_bytes, ← byteVals_append] at this
         have e : (0 :: strBytes s).length = 1 + s.size := by rw [← Hy.out]; exact Hyl.out
         unfold Bytes
         rw [e]; exact this
       have HK := Lib.hid (rseal_any k y A A1 n c (1 + s.size) cap1 w1 Hn.out Hyl.out.symm hk1' hy1 hk1 (by have := Hyl.out; omega)))
    | (go_at_call 36
       refine HK.out.mono ?_
       rintro e w2 ⟨rfl, hb2⟩
       have hB2 : Below w.heap.size w w2 := hF1.below_nob.trans (hb2.mono hF1.size))
    | (with_reducible refine wpList_alloc_run rfl 25 rfl zeroOut alloc25 ?_)
    | (refine wpList_store_blk rfl 25 (.tmp 5) (.tmp 10) rfl w2.heap.size 25 zeroOut (sealV k y) rfl rfl (Blk.new w2 25 zeroOut) (zero_sealV _ _) (info_sealV _ _) (one_sealV _ _) ?_
       intro w3 hb3 hf3
       have hF3 : Fr nob w2 w3 := ((Fr.refl nob w2).alloc (.cells zeroOut 25)).then hf3 (fun i hi => Or.inr (by unfold one at hi; omega))
       have hB3 : Below w.heap.size w w3 := hB2.trans (hF3.below_nob.mono hB2.size))
    | fail)
  go_ret
  exact ⟨w2.heap.size, rfl, hb3, hB2.size, hB3⟩
end Go.Proofs.Ytnlkjhhocehhaaa
