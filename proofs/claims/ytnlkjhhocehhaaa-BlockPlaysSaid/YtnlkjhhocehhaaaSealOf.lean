/- The contract of seal.Of: the seal of bytes by a key. -/
import Derived.Test.YtnlkjhhocehhaaaPass
namespace Go.Proofs.Ytnlkjhhocehhaaa
set_option linter.unusedVariables false
open Go Go.RowKit Go.Proofs Sha
def norm (k : List UInt8) : List UInt8 := if 64 < k.length then sha k else k
def sealOf (k x : List UInt8) : List UInt8 := pass 92 (key64 (norm k)) (pass 54 (key64 (norm k)) x)
theorem length_norm (k : List UInt8) : (norm k).length ≤ 64 := by
  unfold norm; split
  · rw [length_sha]; omega
  · omega
theorem length_key64 (k : List UInt8) (h : k.length ≤ 64) : (key64 k).length = 64 := by
  unfold key64; simp; omega
theorem length_pass (m : UInt8) (k x : List UInt8) : (pass m k x).length = 32 := length_sha _
theorem length_seal (k x : List UInt8) : (sealOf k x).length = 32 := length_sha _
theorem seal_norm (k x : List UInt8) (h : 64 < k.length) : sealOf (sha k) x = sealOf k x := by
  unfold sealOf norm
  rw [if_neg (by rw [length_sha]; omega), if_pos h]
theorem seal_zero (k x : List UInt8) (h : k.length < 64) : sealOf (k ++ [0]) x = sealOf k x := by
  unfold sealOf norm
  rw [if_neg (by simp; omega), if_neg (by omega)]
  have : key64 (k ++ [0]) = key64 k := by
    unfold key64
    rw [List.append_assoc, List.length_append, show 64 - k.length = (64 - (k.length + 1)) + 1 by omega, List.replicate_succ]; rfl
  rw [this]
def zeroKey : Array Value := (byteVals (List.replicate 64 0)).toArray
theorem alloc111 (W : World) : (Instr.alloc 111 true (.tuple #[])).run Try.prog W = .ok (.pointer (some ⟨W.heap.size, 0, none⟩)) (W.alloc (.cells zeroKey 111)) := by kernel_rfl
theorem copy64 (k : List UInt8) (h : k.length ≤ 64) : (zeroKey.toList.take 0 ++ (byteVals k ++ zeroKey.toList.drop (0 + (byteVals k).length))).toArray = (byteVals (key64 k)).toArray := by
  congr 1
  have e : zeroKey.toList = List.replicate 64 (v8 0) := by rfl
  rw [e, key64, byteVals_append, List.drop_replicate, length_byteVals, Nat.zero_add]
  simp [byteVals]
set_option maxRecDepth 100000 in
set_option maxHeartbeats 2000000 in
theorem seal_any (k x : List UInt8) (A B : Option Addr) (n c m d : Nat) (w : World) (hn : n = k.length) (hm : m = x.length) (hk : Bytes w A k) (hx : Bytes w B x) (hk1 : k.length ≤ 400000000) (hx1 : x.length ≤ 400000000) :
    Calls Try.prog 35 #[.slice A n c, .slice B m d] w fun e w' => e = .returned (.agg (byteVals (sealOf k x)).toArray) ∧ Below w.heap.size w w' := by
  subst hn hm
  have hmf : ∀ (fn : Fn) (first cap : Array Value) (w : World), (Instr.makeFunc fn first cap).run Try.prog w = .ok (.func fn first cap) w := fun _ _ _ _ => rfl
  obtain ⟨w1, hw1⟩ : ∃ w1, w1 = (w.alloc (.cells zeroOut 25)).alloc (.cells zeroKey 111) := ⟨_, rfl⟩
  have hg1 : w1.heap.size = w.heap.size + 2 := by rw [hw1]; simp
  have hb4 : Blk w1 w.heap.size 25 zeroOut := by rw [hw1]; exact (Blk.new _ _ _).alloc _
  have hb5 : Blk w1 (w.heap.size + 1) 111 zeroKey := by rw [hw1]; simpa using Blk.new (w.alloc (.cells zeroOut 25)) 111 zeroKey
  have hB1 : Below w.heap.size w w1 := by rw [hw1]; exact ((Below.refl _ _).alloc (Nat.le_refl _) _).alloc (by simp) _
  have hk2 := hk.keep hB1
  have hx2 := hx.keep hB1
  by_cases hlong : 64 < k.length
  · have HK := Lib.hid (of_any k A k.length c w1 rfl hk2 (by omega))
    have hmap : norm k = sha k := by unfold norm; rw [if_pos hlong]
    unfold sealOf
    rw [hmap]
    clear hmap
    obtain ⟨kk, hkk⟩ : ∃ kk, kk = sha k := ⟨_, rfl⟩
    have hkl : kk.length = 32 := by rw [hkk, length_sha]
    rw [← hkk]
    have Hkk := Lib.hid hkk
    have Hkl := Lib.hid hkl
    have HW := Lib.hid hw1
    clear hkk hkl
    go_enter Try.func35, Try.ntmps35
    go_wp2_with (first
      | (with_reducible refine wpList_alloc_run rfl 25 rfl zeroOut alloc25 ?_)
      | (with_reducible refine wpList_alloc_run rfl 111 rfl zeroKey alloc111 ?_
         rw [← HW.out]
         clear hw1)
      | (go_at_call 23
         refine HK.out.mono ?_
         rintro e w2 ⟨rfl, hb2⟩
         have hf2 : Fr nob w1 w2 := Fr.of_below hb2 nob)
      | (refine wpList_store_blk rfl 25 (.tmp 6) (.tmp 13) rfl w2.heap.size 25 zeroOut (shaV k) rfl rfl (Blk.new w2 25 zeroOut) (zero_shaV _) (info_shaV _) (one_shaV _) ?_
         intro w3 hb3 hf3
         have hF3 : Fr nob w1 w3 := (hf2.alloc (.cells zeroOut 25)).then hf3 (fun i hi => Or.inr (by have := hf2.size; unfold one at hi; omega))
         have hk3 : Bytes w3 (some ⟨w2.heap.size, 0, none⟩) kk := by rw [Hkk.out]; exact bytes_shaV hb3
         have hB3 : Below w.heap.size w w3 := hB1.trans (hF3.below_nob.mono hB1.size)
         have hb53 : Blk w3 (w.heap.size + 1) 111 zeroKey := hb5.fr hF3 (fun h => h)
         have hb43 : Blk w3 w.heap.size 25 zeroOut := hb4.fr hF3 (fun h => h)
         have hx3 := hx2.keep hF3.below_nob
         have hcp := copy64 kk (by have := Hkl.out; omega))
      | (refine wpList_copy_blk rfl (.tmp 15) (.tmp 16) 22 22 rfl 5 Try.underlying22 (by kernel_rfl) (w.heap.size + 1) 0 64 64 (some ⟨w2.heap.size, 0, none⟩) 32 32 rfl rfl zeroKey 111 hb53 (byteVals kk) (by have := Hkl.out; simp [byteVals] at this ⊢; omega) (fun hp => by
           obtain ⟨sg, so, e, _, hc⟩ := hk3.2 (by simpa [byteVals] using hp)
           exact ⟨sg, so, e, hc⟩) (by have := Hkl.out; simp [zeroKey, byteVals]; omega) (byteVals_one _) ?_
         intro w4 hb54 hf4
         rw [hcp] at hb54
         clear hcp
         have hb44 : Blk w4 w.heap.size 25 zeroOut := hb43.fr hf4 (fun h => by unfold one at h; omega)
         have hB4 : Below w.heap.size w w4 := hB3.trans (hf4.below hB3.size (fun k hk => by unfold one at hk; omega))
         have hx4 : Bytes w4 B x := hx.keep hB4
         have HP1 : Hid (Calls Try.prog 78 #[.int .u8 54, .slice B x.length d, .pointer (some ⟨w.heap.size + 1, 0, none⟩)] w4 fun e w' => e = .returned (.agg (byteVals (pass 54 (key64 kk) x)).toArray) ∧ Below w4.heap.size w4 w') :=
           Lib.hid (pass_any 54 (key64 kk) x B x.length d (w.heap.size + 1) w4 (length_key64 kk (by have := Hkl.out; omega)) hb54 rfl hx4 hx1)
         have hlk : (key64 kk).length = 64 := length_key64 kk (by have := Hkl.out; omega)
         obtain ⟨K6, hK6⟩ : ∃ K6, K6 = key64 kk := ⟨_, rfl⟩
         rw [← hK6] at hb54 HP1 hlk
         have HK6 := Lib.hid hK6
         have Hlk := Lib.hid hlk
         clear hK6 hlk
         obtain ⟨y, hy⟩ : ∃ y, y = pass 54 K6 x := ⟨_, rfl⟩
         have hyl : y.length = 32 := by rw [hy]; exact length_pass _ _ _
         have hi25 : (Try.prog.info? 25).map (·.size) = some (byteVals y).toArray.size := by rw [show (byteVals y).toArray.size = 32 by simp [byteVals, hyl]]; kernel_rfl
         have hz25 : (byteVals y).toArray.size = zeroOut.size := by rw [show (byteVals y).toArray.size = 32 by simp [byteVals, hyl]]; rfl
         have ho25 : (byteVals y).toArray.all (·.oneCell') = true := all_oneCell_toArray (byteVals_one _)
         rw [← hy] at HP1
         have Hy := Lib.hid hy
         have Hyl := Lib.hid hyl
         have Hi := Lib.hid hi25
         have Hz := Lib.hid hz25
         have Ho := Lib.hid ho25
         have lt5 := hb54.lt
         clear hy hyl hi25 hz25 ho25)
      | (go_at_call 78
         first
         | (refine HP2.out.mono ?_
            rintro e w7 ⟨rfl, hb7⟩
            have hB7 : Below w.heap.size w w7 := hB6.trans (hb7.mono hB6.size)
            have hb47 : Blk w7 w.heap.size 25 zeroOut := hb46.below hb7 hb46.lt)
         | (refine HP1.out.mono ?_
            rintro e w5 ⟨rfl, hb5⟩
            have hB5 : Below w.heap.size w w5 := hB4.trans (hb5.mono hB4.size)
            have hb55 : Blk w5 (w.heap.size + 1) 111 (byteVals K6).toArray := hb54.below hb5 lt5
            have hb45 : Blk w5 w.heap.size 25 zeroOut := hb44.below hb5 hb44.lt))
      | (with_reducible refine wpList_alloc_run rfl 25 rfl zeroOut alloc25 ?_)
      | (refine wpList_store_blk rfl 25 (.tmp 8) (.tmp 21) rfl w5.heap.size 25 zeroOut (byteVals y).toArray rfl rfl (Blk.new w5 25 zeroOut) Hz.out Hi.out Ho.out ?_
         intro w6 hb86 hf6
         have hF6 : Fr nob w5 w6 := ((Fr.refl nob w5).alloc (.cells zeroOut 25)).then hf6 (fun i hi => Or.inr (by unfold one at hi; omega))
         have hB6 : Below w.heap.size w w6 := hB5.trans (hF6.below_nob.mono hB5.size)
         have hb56 : Blk w6 (w.heap.size + 1) 111 (byteVals K6).toArray := hb55.fr hF6 (fun h => h)
         have hb46 : Blk w6 w.heap.size 25 zeroOut := hb45.fr hF6 (fun h => h)
         have hy6 : Bytes w6 (some ⟨w5.heap.size, 0, none⟩) y := ⟨by simp [byteVals], fun _ => ⟨w5.heap.size, 0, rfl, hb86.lt, fun j u hj => by rw [hb86.cell, Nat.zero_add]; simpa using hj⟩⟩
         have HP2 : Hid (Calls Try.prog 78 #[.int .u8 92, .slice (some ⟨w5.heap.size, 0, none⟩) 32 32, .pointer (some ⟨w.heap.size + 1, 0, none⟩)] w6 fun e w' => e = .returned (.agg (shaV (K6.map (· ^^^ 92) ++ y))) ∧ Below w6.heap.size w6 w') :=
           Lib.hid (pass_any 92 K6 y (some ⟨w5.heap.size, 0, none⟩) 32 32 (w.heap.size + 1) w6 Hlk.out hb56 Hyl.out.symm hy6 (by have := Hyl.out; omega)))
      | (refine wpList_store_blk rfl 25 (.tmp 4) (.tmp 24) rfl w.heap.size 25 zeroOut (shaV (K6.map (· ^^^ 92) ++ y)) rfl rfl hb47 (zero_shaV _) (info_shaV _) (one_shaV _) ?_
         intro w8 hb48 hf8)
      | fail)
    exact bodyPost_ret (v := .agg (shaV (K6.map (· ^^^ 92) ++ y))) (by
      refine results_cell_row (cs := shaV (K6.map (· ^^^ 92) ++ y)) rfl _ _ w.heap.size 25 (0, 0) _ rfl hb48 Try.underlying25 rfl (info_shaV _)) rfl
      ⟨by rw [← HK6.out, ← Hy.out]; rfl, hB7.trans (hf8.below hB7.size (fun k hk => by cases hk; exact Nat.le_refl _))⟩
  · have hmap : norm k = k := by unfold norm; rw [if_neg hlong]
    unfold sealOf
    rw [hmap]
    clear hmap
    have hkl : k.length ≤ 64 := by omega
    have Hkl := Lib.hid hkl
    have HW := Lib.hid hw1
    go_enter Try.func35, Try.ntmps35
    go_wp2_with (first
      | (with_reducible refine wpList_alloc_run rfl 25 rfl zeroOut alloc25 ?_)
      | (with_reducible refine wpList_alloc_run rfl 111 rfl zeroKey alloc111 ?_
         rw [← HW.out]
         clear hw1
         obtain ⟨w3, hw3⟩ : ∃ w3, w3 = w1 := ⟨_, rfl⟩
         rw [← hw3]
         have hF3 : Fr nob w1 w3 := by rw [hw3]; exact Fr.refl _ _
         have hk3 : Bytes w3 A k := by rw [hw3]; exact hk2
         clear hw3
         have hB3 : Below w.heap.size w w3 := hB1.trans (hF3.below_nob.mono hB1.size)
         have hb53 : Blk w3 (w.heap.size + 1) 111 zeroKey := hb5.fr hF3 (fun h => h)
         have hb43 : Blk w3 w.heap.size 25 zeroOut := hb4.fr hF3 (fun h => h)
         have hx3 := hx2.keep hF3.below_nob
         have hcp := copy64 k (by have := Hkl.out; omega))
      | (refine wpList_copy_blk rfl (.tmp 15) (.tmp 16) 22 22 rfl 5 Try.underlying22 (by kernel_rfl) (w.heap.size + 1) 0 64 64 A k.length c rfl rfl zeroKey 111 hb53 (byteVals k) (by rw [length_byteVals]; exact (Nat.min_eq_left Hkl.out).symm) (fun hp => by
           obtain ⟨sg, so, e, _, hc⟩ := hk3.2 (by simpa [byteVals] using hp)
           exact ⟨sg, so, e, hc⟩) (by have := Hkl.out; simp [zeroKey, byteVals]; omega) (byteVals_one _) ?_
         intro w4 hb54 hf4
         rw [hcp] at hb54
         clear hcp
         have hb44 : Blk w4 w.heap.size 25 zeroOut := hb43.fr hf4 (fun h => by unfold one at h; omega)
         have hB4 : Below w.heap.size w w4 := hB3.trans (hf4.below hB3.size (fun k hk => by unfold one at hk; omega))
         have hx4 : Bytes w4 B x := hx.keep hB4
         have HP1 : Hid (Calls Try.prog 78 #[.int .u8 54, .slice B x.length d, .pointer (some ⟨w.heap.size + 1, 0, none⟩)] w4 fun e w' => e = .returned (.agg (byteVals (pass 54 (key64 k) x)).toArray) ∧ Below w4.heap.size w4 w') :=
           Lib.hid (pass_any 54 (key64 k) x B x.length d (w.heap.size + 1) w4 (length_key64 k (by have := Hkl.out; omega)) hb54 rfl hx4 hx1)
         have hlk : (key64 k).length = 64 := length_key64 k (by have := Hkl.out; omega)
         obtain ⟨K6, hK6⟩ : ∃ K6, K6 = key64 k := ⟨_, rfl⟩
         rw [← hK6] at hb54 HP1 hlk
         have HK6 := Lib.hid hK6
         have Hlk := Lib.hid hlk
         clear hK6 hlk
         obtain ⟨y, hy⟩ : ∃ y, y = pass 54 K6 x := ⟨_, rfl⟩
         have hyl : y.length = 32 := by rw [hy]; exact length_pass _ _ _
         have hi25 : (Try.prog.info? 25).map (·.size) = some (byteVals y).toArray.size := by rw [show (byteVals y).toArray.size = 32 by simp [byteVals, hyl]]; kernel_rfl
         have hz25 : (byteVals y).toArray.size = zeroOut.size := by rw [show (byteVals y).toArray.size = 32 by simp [byteVals, hyl]]; rfl
         have ho25 : (byteVals y).toArray.all (·.oneCell') = true := all_oneCell_toArray (byteVals_one _)
         rw [← hy] at HP1
         have Hy := Lib.hid hy
         have Hyl := Lib.hid hyl
         have Hi := Lib.hid hi25
         have Hz := Lib.hid hz25
         have Ho := Lib.hid ho25
         have lt5 := hb54.lt
         clear hy hyl hi25 hz25 ho25)
      | (go_at_call 78
         first
         | (refine HP2.out.mono ?_
            rintro e w7 ⟨rfl, hb7⟩
            have hB7 : Below w.heap.size w w7 := hB6.trans (hb7.mono hB6.size)
            have hb47 : Blk w7 w.heap.size 25 zeroOut := hb46.below hb7 hb46.lt)
         | (refine HP1.out.mono ?_
            rintro e w5 ⟨rfl, hb5⟩
            have hB5 : Below w.heap.size w w5 := hB4.trans (hb5.mono hB4.size)
            have hb55 : Blk w5 (w.heap.size + 1) 111 (byteVals K6).toArray := hb54.below hb5 lt5
            have hb45 : Blk w5 w.heap.size 25 zeroOut := hb44.below hb5 hb44.lt))
      | (with_reducible refine wpList_alloc_run rfl 25 rfl zeroOut alloc25 ?_)
      | (refine wpList_store_blk rfl 25 (.tmp 8) (.tmp 21) rfl w5.heap.size 25 zeroOut (byteVals y).toArray rfl rfl (Blk.new w5 25 zeroOut) Hz.out Hi.out Ho.out ?_
         intro w6 hb86 hf6
         have hF6 : Fr nob w5 w6 := ((Fr.refl nob w5).alloc (.cells zeroOut 25)).then hf6 (fun i hi => Or.inr (by unfold one at hi; omega))
         have hB6 : Below w.heap.size w w6 := hB5.trans (hF6.below_nob.mono hB5.size)
         have hb56 : Blk w6 (w.heap.size + 1) 111 (byteVals K6).toArray := hb55.fr hF6 (fun h => h)
         have hb46 : Blk w6 w.heap.size 25 zeroOut := hb45.fr hF6 (fun h => h)
         have hy6 : Bytes w6 (some ⟨w5.heap.size, 0, none⟩) y := ⟨by simp [byteVals], fun _ => ⟨w5.heap.size, 0, rfl, hb86.lt, fun j u hj => by rw [hb86.cell, Nat.zero_add]; simpa using hj⟩⟩
         have HP2 : Hid (Calls Try.prog 78 #[.int .u8 92, .slice (some ⟨w5.heap.size, 0, none⟩) 32 32, .pointer (some ⟨w.heap.size + 1, 0, none⟩)] w6 fun e w' => e = .returned (.agg (shaV (K6.map (· ^^^ 92) ++ y))) ∧ Below w6.heap.size w6 w') :=
           Lib.hid (pass_any 92 K6 y (some ⟨w5.heap.size, 0, none⟩) 32 32 (w.heap.size + 1) w6 Hlk.out hb56 Hyl.out.symm hy6 (by have := Hyl.out; omega)))
      | (refine wpList_store_blk rfl 25 (.tmp 4) (.tmp 24) rfl w.heap.size 25 zeroOut (shaV (K6.map (· ^^^ 92) ++ y)) rfl rfl hb47 (zero_shaV _) (info_shaV _) (one_shaV _) ?_
         intro w8 hb48 hf8)
      | fail)
    exact bodyPost_ret (v := .agg (shaV (K6.map (· ^^^ 92) ++ y))) (by
      refine results_cell_row (cs := shaV (K6.map (· ^^^ 92) ++ y)) rfl _ _ w.heap.size 25 (0, 0) _ rfl hb48 Try.underlying25 rfl (info_shaV _)) rfl
      ⟨by rw [← HK6.out, ← Hy.out]; rfl, hB7.trans (hf8.below hB7.size (fun k hk => by cases hk; exact Nat.le_refl _))⟩
end Go.Proofs.Ytnlkjhhocehhaaa
