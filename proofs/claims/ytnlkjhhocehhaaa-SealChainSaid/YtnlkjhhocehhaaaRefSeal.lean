/- The contracts of the reference's seal: Of, Header, Key. -/
import Derived.Test.YtnlkjhhocehhaaaRefOf
import Derived.Test.YtnlkjhhocehhaaaRefHex
import Derived.Test.YtnlkjhhocehhaaaHeader
namespace Go.Proofs.Ytnlkjhhocehhaaa
set_option linter.unusedVariables false
open Go Go.RowKit Go.Proofs Sha
theorem getD_key64 (k : List UInt8) (h : k.length ≤ 64) (i : Nat) : (key64 k).getD i 0 = if i < k.length then k.getD i 0 else 0 := by
  unfold key64
  simp only [List.getD_eq_getElem?_getD, List.getElem?_append]
  split
  · rfl
  · by_cases hi : i - k.length < 64 - k.length
    · rw [List.getElem?_replicate, if_pos hi]; rfl
    · rw [List.getElem?_eq_none (by simp; omega)]; rfl
theorem mask_succ (l : List UInt8) (m : UInt8) (i : Nat) (h : i < l.length) : (l.take (i + 1)).map (· ^^^ m) = (l.take i).map (· ^^^ m) ++ [l.getD i 0 ^^^ m] := by
  rw [List.take_succ_eq_append_getElem h, List.map_append]; simp [h]
theorem xor54 (x : UInt8) : bits .xor .u8 (n8 x) 54 = n8 (x ^^^ 54) := xor_byte x 54
theorem xor92 (x : UInt8) : bits .xor .u8 (n8 x) 92 = n8 (x ^^^ 92) := xor_byte x 92
theorem xor54z : bits .xor .u8 0 54 = n8 ((0 : UInt8) ^^^ 54) := xor_byte 0 54
theorem xor92z : bits .xor .u8 0 92 = n8 ((0 : UInt8) ^^^ 92) := xor_byte 0 92
set_option maxRecDepth 100000 in
set_option maxHeartbeats 4000000 in
theorem rseal_any (k x : List UInt8) (A B : Option Addr) (n c m d : Nat) (w : World) (hn : n = k.length) (hm : m = x.length) (hk : Bytes w A k) (hx : Bytes w B x) (hk1 : k.length ≤ 300000000) (hx1 : x.length ≤ 300000000) :
    Calls Try.prog 36 #[.slice A n c, .slice B m d] w fun e w' => e = .returned (.agg (byteVals (sealOf k x)).toArray) ∧ Below w.heap.size w w' := by
  subst hn
  have Hm := Lib.hid hm
  have hmb : m ≤ 300000000 := by omega
  clear hm
  obtain ⟨i0, hi0, hz0, hz1, hz2⟩ := info_parts info5
  obtain ⟨w1, hw1⟩ : ∃ w1, w1 = w.alloc (.cells zeroOut 25) := ⟨_, rfl⟩
  have hb4 : Blk w1 w.heap.size 25 zeroOut := by rw [hw1]; exact Blk.new _ _ _
  have hB1 : Below w.heap.size w w1 := by rw [hw1]; exact (Below.refl _ _).alloc (Nat.le_refl _) _
  have hk2 := hk.keep hB1
  by_cases hlong : 64 < k.length
  · have HK := Lib.hid (rof_any k A k.length c w1 rfl hk2 (by omega))
    have hmap : norm k = sha k := by unfold norm; rw [if_pos hlong]
    unfold sealOf
    rw [hmap]
    clear hmap
    obtain ⟨kk, hkk⟩ : ∃ kk, kk = sha k := ⟨_, rfl⟩
    have hkl : kk.length = 32 := by rw [hkk, length_sha]
    rw [← hkk]
    have Hkk := Lib.hid hkk
    have Hkl : Hid (32 = kk.length) := Lib.hid hkl.symm
    have hkb : (32 : Nat) ≤ 64 := by omega
    have HW := Lib.hid hw1
    have hd64 : decide (64 < (k.length : Int)) = true := decide_eq_true (by omega)
    clear hkk hkl
    go_enter Try.func36, Try.ntmps36
    go_wp2_with (first
      | (with_reducible refine wpList_alloc_run rfl 25 rfl zeroOut alloc25 ?_
         first
         | (rw [← HW.out]
            clear HW hw1)
         | skip)
      | (go_at_call 24
         refine HK.out.mono ?_
         rintro e w2 ⟨rfl, hb2⟩
         clear HK
         have hf2 : Fr nob w1 w2 := Fr.of_below hb2 nob)
      | (refine wpList_store_blk rfl 25 (.tmp 5) (.tmp 15) rfl w2.heap.size 25 zeroOut (shaV k) rfl rfl (Blk.new w2 25 zeroOut) (zero_shaV _) (info_shaV _) (one_shaV _) ?_
         intro w3 hb3 hf3)
      | fail)
    have hF3 : Fr nob w1 w3 := (hf2.alloc (.cells zeroOut 25)).then hf3 (fun i hi => Or.inr (by have := hf2.size; unfold one at hi; omega))
    have hk3 : Bytes w3 (some ⟨w2.heap.size, 0, none⟩) kk := by rw [Hkk.out]; exact bytes_shaV hb3
    obtain ⟨g2, hg2⟩ : ∃ g2, g2 = w2.heap.size := ⟨_, rfl⟩
    rw [← hg2] at hk3 ⊢
    clear hg2
    have hB3 : Below w.heap.size w w3 := hB1.trans (hF3.below_nob.mono hB1.size)
    have ho3 : Blk w3 w.heap.size 25 zeroOut := hb4.fr hF3 (fun h => h)
    have hx3 : Bytes w3 B x := hx.keep hB3
    have hlk : (key64 kk).length = 64 := length_key64 kk (by have := Hkl.out; omega)
    have hgd := getD_key64 kk (by have := Hkl.out; omega)
    obtain ⟨K6, hK6⟩ : ∃ K6, K6 = key64 kk := ⟨_, rfl⟩
    rw [← hK6] at hlk hgd
    have HK6 := Lib.hid hK6
    have Hlk := Lib.hid hlk
    have Hgd := Lib.hid hgd
    clear hK6 hlk hgd
    go_loopw [6, 7, 8, 9] (fun c6 c7 c8 _ wr => ∃ i : Nat, i ≤ 64 ∧ c8 = .int .i64 i ∧ Own wr 5 1 c6 i (byteVals ((K6.take i).map (· ^^^ 54))) ∧ Own wr 5 1 c7 i (byteVals ((K6.take i).map (· ^^^ 92))) ∧ (∀ k, rowOf c6 k → w3.heap.size ≤ k) ∧ (∀ k, rowOf c7 k → w3.heap.size ≤ k) ∧ (∀ k, rowOf c6 k → ¬ rowOf c7 k) ∧ Below w3.heap.size w3 wr) (fun _ _ c8 _ _ => 64 - (intOf c8).toNat)
    case atStart => exact ⟨0, by omega, rfl, Own.nil _ _ _, Own.nil _ _ _, fun k hk => by (cases hk), fun k hk => by (cases hk), fun k hk => by (cases hk), Below.refl _ _⟩
    case round =>
      obtain ⟨i, hi, rfl, ho6, ho7, hr6, hr7, hne, hB⟩ := hrel
      obtain ⟨A6, c6', hv6, -, -⟩ := ho6.shape
      subst hv6
      obtain ⟨A7, c7', hv7, -, -⟩ := ho7.shape
      subst hv7
      by_cases hlt : i < 64
      · have hd : decide ((i : Int) < 64) = true := decide_eq_true (by omega)
        obtain ⟨y, hy⟩ : ∃ y, y = K6.getD i 0 := ⟨_, rfl⟩
        have hs1 := mask_succ K6 54 i (by rw [Hlk.out]; exact hlt)
        have hs2 := mask_succ K6 92 i (by rw [Hlk.out]; exact hlt)
        rw [← hy] at hs1 hs2
        have HS1 := Lib.hid hs1
        have HS2 := Lib.hid hs2
        clear hs1 hs2
        obtain ⟨L6, hL6⟩ : ∃ L, L = (K6.take i).map (· ^^^ 54) := ⟨_, rfl⟩
        obtain ⟨L7, hL7⟩ : ∃ L, L = (K6.take i).map (· ^^^ 92) := ⟨_, rfl⟩
        rw [← hL6] at ho6 HS1
        rw [← hL7] at ho7 HS2
        clear hL6 hL7
        have hx5 := xor54 y
        have hx9 := xor92 y
        have hp6 : ∀ u : UInt8, Own (wr.alloc (.cells #[.int .u8 (n8 u)] 5)) 5 1 (.slice A6 i c6') i (byteVals L6) := fun u => ho6.fr ((Fr.refl nob _).alloc _) (fun _ h => h.elim)
        have hs6 : ∀ u : UInt8, Src (wr.alloc (.cells #[.int .u8 (n8 u)] 5)) 1 (some ⟨wr.heap.size, 0, none⟩) 1 [.int .u8 (n8 u)] := fun u => Src.of_new wr 5 #[.int .u8 (n8 u)] 1 rfl
        have HP6 := Lib.hid hp6
        have HS6 := Lib.hid hs6
        clear hp6 hs6
        by_cases hin : i < 32
        · have hdi : decide ((i : Int) < (32 : Int)) = true := decide_eq_true (by omega)
          have hye : y = kk.getD i 0 := by rw [hy, Hgd.out i, if_pos (by have := Hkl.out; omega)]
          obtain ⟨sg, so, hsa, hsg, hsc⟩ := hk3.2 (by have := Hkl.out; omega)
          have hcell : wr.cell? ⟨sg, so + i, none⟩ = some (.int .u8 (n8 y)) := (hB.cell (p := ⟨sg, so + i, none⟩) hsg).trans (by
            rw [hsc i _ (byteVals_get kk i (by have := Hkl.out; omega)), hye]; rfl)
          have hsg' : sg < wr.heap.size := Nat.lt_of_lt_of_le hsg hB.size
          injection hsa with hsa
          injection hsa with hs1 hs2
          subst hs1 hs2
          rw [Nat.zero_add] at hcell
          clear hye hy
          go_wp2_with (first
            | (at_builtin
               first
               | (refine wpList_append_o _ rfl (.tmp 29) (.tmp 32) 22 rfl 5 i0 (.int .u8 0) 1 1 Try.underlying22 hi0 hz0 hz1 hz2 rfl (by omega) (.slice A6 i c6') i (byteVals L6) rfl (HP6.out (y ^^^ 54)) (some ⟨wr.heap.size, 0, none⟩) 1 1 [.int .u8 (n8 (y ^^^ 54))] rfl (HS6.out (y ^^^ 54)) (by simp [Value.oneCell']) (by simp only [maxLen]; omega) (by omega) ?_
                  intro v6 w6 hown6 hf6 hrr6
                  have hfr6 : Fr (rowOf (.slice A6 i c6')) wr w6 := ((Fr.refl _ wr).alloc (.cells #[.int .u8 (n8 (y ^^^ 54))] 5)).trans hf6
                  have ho76 : Own w6 5 1 (.slice A7 i c7') i (byteVals L7) := ho7.fr hfr6 (fun k hk hk7 => hne k hk hk7)
                  have ho76' : Own (w6.alloc (.cells #[.int .u8 (n8 (y ^^^ 92))] 5)) 5 1 (.slice A7 i c7') i (byteVals L7) := ho76.fr ((Fr.refl nob _).alloc _) (fun _ h => h.elim)
                  have hs76 : Src (w6.alloc (.cells #[.int .u8 (n8 (y ^^^ 92))] 5)) 1 (some ⟨w6.heap.size, 0, none⟩) 1 [.int .u8 (n8 (y ^^^ 92))] := Src.of_new w6 5 #[.int .u8 (n8 (y ^^^ 92))] 1 rfl)
               | (refine wpList_append_o _ rfl (.tmp 34) (.tmp 37) 22 rfl 5 i0 (.int .u8 0) 1 1 Try.underlying22 hi0 hz0 hz1 hz2 rfl (by omega) (.slice A7 i c7') i (byteVals L7) rfl ho76' (some ⟨w6.heap.size, 0, none⟩) 1 1 [.int .u8 (n8 (y ^^^ 92))] rfl hs76 (by simp [Value.oneCell']) (by simp only [maxLen]; omega) (by omega) ?_
                  intro v7 w7 hown7 hf7 hrr7))
            | fail)
          go_roundw
          case rel =>
            have hB6 : Below w3.heap.size w3 w6 := hB.trans (hfr6.below hB.size hr6)
            have hfr7 : Fr (rowOf (.slice A7 i c7')) w6 w7 := ((Fr.refl _ w6).alloc _).trans hf7
            have hlt7 : ∀ k, rowOf (.slice A7 i c7') k → k < wr.heap.size := fun k hk => ho7.lt hk
            have hne6 : ∀ k, rowOf (.slice A7 i c7') k → ¬ rowOf v6 k := fun k hk hk6 => (hrr6 k hk6).elim (fun h => hne k h hk) (fun h => by have := hlt7 k hk; simp at h; omega)
            refine ⟨i + 1, by omega, by go_num, ?_, ?_, fun k hk => (hrr6 k hk).elim (hr6 k) (fun h => by have := hB.size; simp at h; omega), fun k hk => (hrr7 k hk).elim (hr7 k) (fun h => by have := hB6.size; simp at h; omega), fun k hk6 hk7 => ?_, hB6.trans (hfr7.below hB6.size hr7)⟩
            · rw [HS1.out, byteVals_append]; exact hown6.fr hfr7 (fun k hk => hne6 k hk)
            · rw [HS2.out, byteVals_append]; exact hown7
            · rcases hrr7 k hk7 with h | h
              · exact hne6 k h hk6
              · have := hown6.lt hk6; simp at h; omega
          case measure => simp [intOf]; omega
        · have hdi : decide ((i : Int) < (32 : Int)) = false := decide_eq_false (by omega)
          have hye : y = 0 := by rw [hy, Hgd.out i, if_neg (by have := Hkl.out; omega)]
          have hx5z := xor54z
          have hx9z := xor92z
          subst hye
          clear hy
          go_wp2_with (first
            | (at_builtin
               first
               | (refine wpList_append_o _ rfl (.tmp 29) (.tmp 32) 22 rfl 5 i0 (.int .u8 0) 1 1 Try.underlying22 hi0 hz0 hz1 hz2 rfl (by omega) (.slice A6 i c6') i (byteVals L6) rfl (HP6.out 54) (some ⟨wr.heap.size, 0, none⟩) 1 1 [.int .u8 (n8 54)] rfl (HS6.out 54) (by simp [Value.oneCell']) (by simp only [maxLen]; omega) (by omega) ?_
                  intro v6 w6 hown6 hf6 hrr6
                  have hfr6 : Fr (rowOf (.slice A6 i c6')) wr w6 := ((Fr.refl _ wr).alloc (.cells #[.int .u8 (n8 54)] 5)).trans hf6
                  have ho76 : Own w6 5 1 (.slice A7 i c7') i (byteVals L7) := ho7.fr hfr6 (fun k hk hk7 => hne k hk hk7)
                  have ho76' : Own (w6.alloc (.cells #[.int .u8 (n8 92)] 5)) 5 1 (.slice A7 i c7') i (byteVals L7) := ho76.fr ((Fr.refl nob _).alloc _) (fun _ h => h.elim)
                  have hs76 : Src (w6.alloc (.cells #[.int .u8 (n8 92)] 5)) 1 (some ⟨w6.heap.size, 0, none⟩) 1 [.int .u8 (n8 92)] := Src.of_new w6 5 #[.int .u8 (n8 92)] 1 rfl)
               | (refine wpList_append_o _ rfl (.tmp 34) (.tmp 37) 22 rfl 5 i0 (.int .u8 0) 1 1 Try.underlying22 hi0 hz0 hz1 hz2 rfl (by omega) (.slice A7 i c7') i (byteVals L7) rfl ho76' (some ⟨w6.heap.size, 0, none⟩) 1 1 [.int .u8 (n8 92)] rfl hs76 (by simp [Value.oneCell']) (by simp only [maxLen]; omega) (by omega) ?_
                  intro v7 w7 hown7 hf7 hrr7))
            | fail)
          go_roundw
          case rel =>
            have hB6 : Below w3.heap.size w3 w6 := hB.trans (hfr6.below hB.size hr6)
            have hfr7 : Fr (rowOf (.slice A7 i c7')) w6 w7 := ((Fr.refl _ w6).alloc _).trans hf7
            have hlt7 : ∀ k, rowOf (.slice A7 i c7') k → k < wr.heap.size := fun k hk => ho7.lt hk
            have hne6 : ∀ k, rowOf (.slice A7 i c7') k → ¬ rowOf v6 k := fun k hk hk6 => (hrr6 k hk6).elim (fun h => hne k h hk) (fun h => by have := hlt7 k hk; simp at h; omega)
            refine ⟨i + 1, by omega, by go_num, ?_, ?_, fun k hk => (hrr6 k hk).elim (hr6 k) (fun h => by have := hB.size; simp at h; omega), fun k hk => (hrr7 k hk).elim (hr7 k) (fun h => by have := hB6.size; simp at h; omega), fun k hk6 hk7 => ?_, hB6.trans (hfr7.below hB6.size hr7)⟩
            · rw [HS1.out, byteVals_append]; exact hown6.fr hfr7 (fun k hk => hne6 k hk)
            · rw [HS2.out, byteVals_append]; exact hown7
            · rcases hrr7 k hk7 with h | h
              · exact hne6 k h hk6
              · have := hown6.lt hk6; simp at h; omega
          case measure => simp [intOf]; omega
      · have hd : decide ((i : Int) < 64) = false := decide_eq_false (by omega)
        obtain rfl : i = 64 := by omega
        rw [List.take_of_length_le (by rw [Hlk.out]; exact Nat.le_refl _)] at ho6 ho7
        obtain ⟨wq, rfl⟩ : ∃ wq : World, wq = wr := ⟨_, rfl⟩
        obtain ⟨P6, hP6⟩ : ∃ P, P = K6.map (· ^^^ 54) := ⟨_, rfl⟩
        obtain ⟨P7, hP7⟩ : ∃ P, P = K6.map (· ^^^ 92) := ⟨_, rfl⟩
        rw [← hP6] at ho6
        rw [← hP7] at ho7
        have hl6 : P6.length = 64 := by rw [hP6, List.length_map, Hlk.out]
        have hl7 : P7.length = 64 := by rw [hP7, List.length_map, Hlk.out]
        have HP6 := Lib.hid hP6
        have HP7 := Lib.hid hP7
        have HL6 := Lib.hid hl6
        have HL7 := Lib.hid hl7
        clear hP6 hP7 hl6 hl7
        have hBq : Below w.heap.size w wq := hB3.trans (hB.mono hB3.size)
        have ho3q := ho3.below hB ho3.lt
        obtain ⟨y, hy⟩ : ∃ y, y = sha (P6 ++ x) := ⟨_, rfl⟩
        have hyl : y.length = 32 := by rw [hy]; exact length_sha _
        have HYd := Lib.hid hy
        have HYl := Lib.hid hyl
        clear hy hyl
        go_wp2_with (first
          | (at_builtin
             first
             | (refine wpList_append_o _ rfl (.tmp 39) (.tmp 40) 22 rfl 5 i0 (.int .u8 0) 1 1 Try.underlying22 hi0 hz0 hz1 hz2 rfl (by omega) (.slice A6 64 c6') 64 (byteVals P6) rfl ho6 B m d (byteVals x) rfl (by have := hx.keep hBq; unfold Bytes at this; rwa [← Hm.out] at this) (byteVals_one _) (by simp only [maxLen]; omega) (by omega) ?_
                intro v8 w8 hown8 hf8 hr8
                obtain ⟨A8, c8', hv8, -, -⟩ := hown8.shape
                subst hv8
                have ho78 : Own w8 5 1 (.slice A7 64 c7') 64 (byteVals P7) := ho7.fr hf8 (fun k hk hk7 => hne k hk hk7)
                have hB8 : Below w.heap.size w w8 := hBq.trans (hf8.below hBq.size (fun k hk => by have := hr6 k hk; have := hB3.size; omega))
                have ho38 := ho3q.fr hf8 (ho6.blk_ne ho3q (by decide))
                have hby8 : Bytes w8 A8 (P6 ++ x) := by
                  have h := Src.of_own hown8
                  have e : (P6 ++ x).length = 64 + m := by rw [List.length_append, HL6.out, ← Hm.out]
                  unfold Bytes
                  rw [e, byteVals_append]; exact h
                have hk8 := rof_any (P6 ++ x) A8 (64 + m) c8' w8 (by rw [List.length_append, HL6.out, ← Hm.out]) hby8 (by rw [List.length_append, HL6.out, ← Hm.out]; omega)
                rw [← HYd.out] at hk8
                have HK8 := Lib.hid hk8
                clear hk8)
             | (refine wpList_append_o _ rfl (.tmp 43) (.tmp 44) 22 rfl 5 i0 (.int .u8 0) 1 1 Try.underlying22 hi0 hz0 hz1 hz2 rfl (by omega) (.slice A7 64 c7') 64 (byteVals P7) rfl ho710 (some ⟨w9.heap.size, 0, none⟩) 32 32 (byteVals y) rfl hsy (byteVals_one _) (by simp only [maxLen]; omega) (by omega) ?_
                intro v11 w11 hown11 hf11 hr11
                obtain ⟨A11, c11', hv11, -, -⟩ := hown11.shape
                subst hv11
                have hB11 : Below w.heap.size w w11 := hB10.trans (hf11.below hB10.size (fun k hk => by have := hr7 k hk; have := hB3.size; omega))
                have ho311 := ho310.fr hf11 (ho710.blk_ne ho310 (by decide))
                have hby11 : Bytes w11 A11 (P7 ++ y) := by
                  have h := Src.of_own hown11
                  have e : (P7 ++ y).length = 64 + 32 := by rw [List.length_append, HL7.out, HYl.out]
                  unfold Bytes
                  rw [e, byteVals_append]; exact h
                have HK11 := Lib.hid (rof_any (P7 ++ y) A11 (64 + 32) c11' w11 (by rw [List.length_append, HL7.out, HYl.out]) hby11 (by rw [List.length_append, HL7.out, HYl.out]; omega))))
          | (go_at_call 24
             first
             | (refine HK11.out.mono ?_
                rintro e w12 ⟨rfl, hb12⟩
                have hB12 : Below w.heap.size w w12 := hB11.trans (hb12.mono hB11.size)
                have ho312 := ho311.below hb12 ho311.lt)
             | (refine HK8.out.mono ?_
                rintro e w9 ⟨rfl, hb9⟩
                have hB9 : Below w.heap.size w w9 := hB8.trans (hb9.mono hB8.size)
                have ho39 := ho38.below hb9 ho38.lt
                have ho79 := ho78.fr (Fr.of_below hb9 nob) (fun _ h => h.elim)))
          | (with_reducible refine wpList_alloc_run rfl 25 rfl zeroOut alloc25 ?_)
          | (refine wpList_store_blk rfl 25 (.tmp 10) (.tmp 42) rfl w9.heap.size 25 zeroOut (byteVals y).toArray rfl rfl (Blk.new w9 25 zeroOut) (by simp [byteVals, HYl.out, zeroOut]) (by rw [show (byteVals y).toArray.size = 32 by simp [byteVals, HYl.out]]; kernel_rfl) (all_oneCell_toArray (byteVals_one _)) ?_
             intro w10 hb10 hf10
             have hF10 : Fr nob w9 w10 := ((Fr.refl nob w9).alloc (.cells zeroOut 25)).then hf10 (fun i hi => Or.inr (by unfold one at hi; omega))
             have hB10 : Below w.heap.size w w10 := hB9.trans (hF10.below_nob.mono hB9.size)
             have ho310 := ho39.fr hF10 (fun h => h)
             have ho710 := ho79.fr hF10 (fun _ h => h.elim)
             have hsy : Src w10 1 (some ⟨w9.heap.size, 0, none⟩) 32 (byteVals y) := ⟨by rw [length_byteVals, HYl.out], fun _ => ⟨w9.heap.size, 0, rfl, hb10.lt, fun j u hj => by rw [hb10.cell, Nat.zero_add]; simpa using hj⟩⟩
             simp only [Act.put, List.setIfInBounds_toArray, List.set_cons_zero, List.set_cons_succ])
          | (refine wpList_store_blk rfl 25 (.tmp 4) (.tmp 46) rfl w.heap.size 25 zeroOut (shaV (P7 ++ y)) rfl rfl ho312 (zero_shaV _) (info_shaV _) (one_shaV _) ?_
             intro w13 hb13 hf13)
          | fail)
        exact bodyPost_ret (v := .agg (shaV (P7 ++ y))) (by
          refine results_cell_row (cs := shaV (P7 ++ y)) rfl _ _ w.heap.size 25 (0, 0) _ rfl hb13 Try.underlying25 rfl (info_shaV _)) rfl
          ⟨by rw [HYd.out, HP6.out, HP7.out, HK6.out]; rfl, hB12.trans (hf13.below hB12.size (fun k hk => by cases hk; exact Nat.le_refl _))⟩
  · have hmap : norm k = k := by unfold norm; rw [if_neg hlong]
    unfold sealOf
    rw [hmap]
    clear hmap
    have Hkl : Hid (k.length = k.length) := Lib.hid rfl
    have hkb : k.length ≤ 64 := by omega
    have HW := Lib.hid hw1
    have hd64 : decide (64 < (k.length : Int)) = false := decide_eq_false (by omega)
    go_enter Try.func36, Try.ntmps36
    go_wp2_with (first
      | (with_reducible refine wpList_alloc_run rfl 25 rfl zeroOut alloc25 ?_
         rw [← HW.out]
         clear HW hw1)
      | fail)
    obtain ⟨w3, hw3⟩ : ∃ w3, w3 = w1 := ⟨_, rfl⟩
    rw [← hw3]
    have hF3 : Fr nob w1 w3 := by rw [hw3]; exact Fr.refl _ _
    have hk3 : Bytes w3 A k := by rw [hw3]; exact hk2
    clear hw3
    have hB3 : Below w.heap.size w w3 := hB1.trans (hF3.below_nob.mono hB1.size)
    have ho3 : Blk w3 w.heap.size 25 zeroOut := hb4.fr hF3 (fun h => h)
    have hx3 : Bytes w3 B x := hx.keep hB3
    have hlk : (key64 k).length = 64 := length_key64 k (by have := Hkl.out; omega)
    have hgd := getD_key64 k (by have := Hkl.out; omega)
    obtain ⟨K6, hK6⟩ : ∃ K6, K6 = key64 k := ⟨_, rfl⟩
    rw [← hK6] at hlk hgd
    have HK6 := Lib.hid hK6
    have Hlk := Lib.hid hlk
    have Hgd := Lib.hid hgd
    clear hK6 hlk hgd
    go_loopw [6, 7, 8, 9] (fun c6 c7 c8 _ wr => ∃ i : Nat, i ≤ 64 ∧ c8 = .int .i64 i ∧ Own wr 5 1 c6 i (byteVals ((K6.take i).map (· ^^^ 54))) ∧ Own wr 5 1 c7 i (byteVals ((K6.take i).map (· ^^^ 92))) ∧ (∀ k, rowOf c6 k → w3.heap.size ≤ k) ∧ (∀ k, rowOf c7 k → w3.heap.size ≤ k) ∧ (∀ k, rowOf c6 k → ¬ rowOf c7 k) ∧ Below w3.heap.size w3 wr) (fun _ _ c8 _ _ => 64 - (intOf c8).toNat)
    case atStart => exact ⟨0, by omega, rfl, Own.nil _ _ _, Own.nil _ _ _, fun k hk => by (cases hk), fun k hk => by (cases hk), fun k hk => by (cases hk), Below.refl _ _⟩
    case round =>
      obtain ⟨i, hi, rfl, ho6, ho7, hr6, hr7, hne, hB⟩ := hrel
      obtain ⟨A6, c6', hv6, -, -⟩ := ho6.shape
      subst hv6
      obtain ⟨A7, c7', hv7, -, -⟩ := ho7.shape
      subst hv7
      by_cases hlt : i < 64
      · have hd : decide ((i : Int) < 64) = true := decide_eq_true (by omega)
        obtain ⟨y, hy⟩ : ∃ y, y = K6.getD i 0 := ⟨_, rfl⟩
        have hs1 := mask_succ K6 54 i (by rw [Hlk.out]; exact hlt)
        have hs2 := mask_succ K6 92 i (by rw [Hlk.out]; exact hlt)
        rw [← hy] at hs1 hs2
        have HS1 := Lib.hid hs1
        have HS2 := Lib.hid hs2
        clear hs1 hs2
        obtain ⟨L6, hL6⟩ : ∃ L, L = (K6.take i).map (· ^^^ 54) := ⟨_, rfl⟩
        obtain ⟨L7, hL7⟩ : ∃ L, L = (K6.take i).map (· ^^^ 92) := ⟨_, rfl⟩
        rw [← hL6] at ho6 HS1
        rw [← hL7] at ho7 HS2
        clear hL6 hL7
        have hx5 := xor54 y
        have hx9 := xor92 y
        have hp6 : ∀ u : UInt8, Own (wr.alloc (.cells #[.int .u8 (n8 u)] 5)) 5 1 (.slice A6 i c6') i (byteVals L6) := fun u => ho6.fr ((Fr.refl nob _).alloc _) (fun _ h => h.elim)
        have hs6 : ∀ u : UInt8, Src (wr.alloc (.cells #[.int .u8 (n8 u)] 5)) 1 (some ⟨wr.heap.size, 0, none⟩) 1 [.int .u8 (n8 u)] := fun u => Src.of_new wr 5 #[.int .u8 (n8 u)] 1 rfl
        have HP6 := Lib.hid hp6
        have HS6 := Lib.hid hs6
        clear hp6 hs6
        by_cases hin : i < k.length
        · have hdi : decide ((i : Int) < (k.length : Int)) = true := decide_eq_true (by omega)
          have hye : y = k.getD i 0 := by rw [hy, Hgd.out i, if_pos (by have := Hkl.out; omega)]
          obtain ⟨sg, so, hsa, hsg, hsc⟩ := hk3.2 (by have := Hkl.out; omega)
          have hcell : wr.cell? ⟨sg, so + i, none⟩ = some (.int .u8 (n8 y)) := (hB.cell (p := ⟨sg, so + i, none⟩) hsg).trans (by
            rw [hsc i _ (byteVals_get k i (by have := Hkl.out; omega)), hye]; rfl)
          have hsg' : sg < wr.heap.size := Nat.lt_of_lt_of_le hsg hB.size
          subst hsa
          clear hye hy
          go_wp2_with (first
            | (at_builtin
               first
               | (refine wpList_append_o _ rfl (.tmp 29) (.tmp 32) 22 rfl 5 i0 (.int .u8 0) 1 1 Try.underlying22 hi0 hz0 hz1 hz2 rfl (by omega) (.slice A6 i c6') i (byteVals L6) rfl (HP6.out (y ^^^ 54)) (some ⟨wr.heap.size, 0, none⟩) 1 1 [.int .u8 (n8 (y ^^^ 54))] rfl (HS6.out (y ^^^ 54)) (by simp [Value.oneCell']) (by simp only [maxLen]; omega) (by omega) ?_
                  intro v6 w6 hown6 hf6 hrr6
                  have hfr6 : Fr (rowOf (.slice A6 i c6')) wr w6 := ((Fr.refl _ wr).alloc (.cells #[.int .u8 (n8 (y ^^^ 54))] 5)).trans hf6
                  have ho76 : Own w6 5 1 (.slice A7 i c7') i (byteVals L7) := ho7.fr hfr6 (fun k hk hk7 => hne k hk hk7)
                  have ho76' : Own (w6.alloc (.cells #[.int .u8 (n8 (y ^^^ 92))] 5)) 5 1 (.slice A7 i c7') i (byteVals L7) := ho76.fr ((Fr.refl nob _).alloc _) (fun _ h => h.elim)
                  have hs76 : Src (w6.alloc (.cells #[.int .u8 (n8 (y ^^^ 92))] 5)) 1 (some ⟨w6.heap.size, 0, none⟩) 1 [.int .u8 (n8 (y ^^^ 92))] := Src.of_new w6 5 #[.int .u8 (n8 (y ^^^ 92))] 1 rfl)
               | (refine wpList_append_o _ rfl (.tmp 34) (.tmp 37) 22 rfl 5 i0 (.int .u8 0) 1 1 Try.underlying22 hi0 hz0 hz1 hz2 rfl (by omega) (.slice A7 i c7') i (byteVals L7) rfl ho76' (some ⟨w6.heap.size, 0, none⟩) 1 1 [.int .u8 (n8 (y ^^^ 92))] rfl hs76 (by simp [Value.oneCell']) (by simp only [maxLen]; omega) (by omega) ?_
                  intro v7 w7 hown7 hf7 hrr7))
            | fail)
          go_roundw
          case rel =>
            have hB6 : Below w3.heap.size w3 w6 := hB.trans (hfr6.below hB.size hr6)
            have hfr7 : Fr (rowOf (.slice A7 i c7')) w6 w7 := ((Fr.refl _ w6).alloc _).trans hf7
            have hlt7 : ∀ k, rowOf (.slice A7 i c7') k → k < wr.heap.size := fun k hk => ho7.lt hk
            have hne6 : ∀ k, rowOf (.slice A7 i c7') k → ¬ rowOf v6 k := fun k hk hk6 => (hrr6 k hk6).elim (fun h => hne k h hk) (fun h => by have := hlt7 k hk; simp at h; omega)
            refine ⟨i + 1, by omega, by go_num, ?_, ?_, fun k hk => (hrr6 k hk).elim (hr6 k) (fun h => by have := hB.size; simp at h; omega), fun k hk => (hrr7 k hk).elim (hr7 k) (fun h => by have := hB6.size; simp at h; omega), fun k hk6 hk7 => ?_, hB6.trans (hfr7.below hB6.size hr7)⟩
            · rw [HS1.out, byteVals_append]; exact hown6.fr hfr7 (fun k hk => hne6 k hk)
            · rw [HS2.out, byteVals_append]; exact hown7
            · rcases hrr7 k hk7 with h | h
              · exact hne6 k h hk6
              · have := hown6.lt hk6; simp at h; omega
          case measure => simp [intOf]; omega
        · have hdi : decide ((i : Int) < (k.length : Int)) = false := decide_eq_false (by omega)
          have hye : y = 0 := by rw [hy, Hgd.out i, if_neg (by have := Hkl.out; omega)]
          have hx5z := xor54z
          have hx9z := xor92z
          subst hye
          clear hy
          go_wp2_with (first
            | (at_builtin
               first
               | (refine wpList_append_o _ rfl (.tmp 29) (.tmp 32) 22 rfl 5 i0 (.int .u8 0) 1 1 Try.underlying22 hi0 hz0 hz1 hz2 rfl (by omega) (.slice A6 i c6') i (byteVals L6) rfl (HP6.out 54) (some ⟨wr.heap.size, 0, none⟩) 1 1 [.int .u8 (n8 54)] rfl (HS6.out 54) (by simp [Value.oneCell']) (by simp only [maxLen]; omega) (by omega) ?_
                  intro v6 w6 hown6 hf6 hrr6
                  have hfr6 : Fr (rowOf (.slice A6 i c6')) wr w6 := ((Fr.refl _ wr).alloc (.cells #[.int .u8 (n8 54)] 5)).trans hf6
                  have ho76 : Own w6 5 1 (.slice A7 i c7') i (byteVals L7) := ho7.fr hfr6 (fun k hk hk7 => hne k hk hk7)
                  have ho76' : Own (w6.alloc (.cells #[.int .u8 (n8 92)] 5)) 5 1 (.slice A7 i c7') i (byteVals L7) := ho76.fr ((Fr.refl nob _).alloc _) (fun _ h => h.elim)
                  have hs76 : Src (w6.alloc (.cells #[.int .u8 (n8 92)] 5)) 1 (some ⟨w6.heap.size, 0, none⟩) 1 [.int .u8 (n8 92)] := Src.of_new w6 5 #[.int .u8 (n8 92)] 1 rfl)
               | (refine wpList_append_o _ rfl (.tmp 34) (.tmp 37) 22 rfl 5 i0 (.int .u8 0) 1 1 Try.underlying22 hi0 hz0 hz1 hz2 rfl (by omega) (.slice A7 i c7') i (byteVals L7) rfl ho76' (some ⟨w6.heap.size, 0, none⟩) 1 1 [.int .u8 (n8 92)] rfl hs76 (by simp [Value.oneCell']) (by simp only [maxLen]; omega) (by omega) ?_
                  intro v7 w7 hown7 hf7 hrr7))
            | fail)
          go_roundw
          case rel =>
            have hB6 : Below w3.heap.size w3 w6 := hB.trans (hfr6.below hB.size hr6)
            have hfr7 : Fr (rowOf (.slice A7 i c7')) w6 w7 := ((Fr.refl _ w6).alloc _).trans hf7
            have hlt7 : ∀ k, rowOf (.slice A7 i c7') k → k < wr.heap.size := fun k hk => ho7.lt hk
            have hne6 : ∀ k, rowOf (.slice A7 i c7') k → ¬ rowOf v6 k := fun k hk hk6 => (hrr6 k hk6).elim (fun h => hne k h hk) (fun h => by have := hlt7 k hk; simp at h; omega)
            refine ⟨i + 1, by omega, by go_num, ?_, ?_, fun k hk => (hrr6 k hk).elim (hr6 k) (fun h => by have := hB.size; simp at h; omega), fun k hk => (hrr7 k hk).elim (hr7 k) (fun h => by have := hB6.size; simp at h; omega), fun k hk6 hk7 => ?_, hB6.trans (hfr7.below hB6.size hr7)⟩
            · rw [HS1.out, byteVals_append]; exact hown6.fr hfr7 (fun k hk => hne6 k hk)
            · rw [HS2.out, byteVals_append]; exact hown7
            · rcases hrr7 k hk7 with h | h
              · exact hne6 k h hk6
              · have := hown6.lt hk6; simp at h; omega
          case measure => simp [intOf]; omega
      · have hd : decide ((i : Int) < 64) = false := decide_eq_false (by omega)
        obtain rfl : i = 64 := by omega
        rw [List.take_of_length_le (by rw [Hlk.out]; exact Nat.le_refl _)] at ho6 ho7
        obtain ⟨wq, rfl⟩ : ∃ wq : World, wq = wr := ⟨_, rfl⟩
        obtain ⟨P6, hP6⟩ : ∃ P, P = K6.map (· ^^^ 54) := ⟨_, rfl⟩
        obtain ⟨P7, hP7⟩ : ∃ P, P = K6.map (· ^^^ 92) := ⟨_, rfl⟩
        rw [← hP6] at ho6
        rw [← hP7] at ho7
        have hl6 : P6.length = 64 := by rw [hP6, List.length_map, Hlk.out]
        have hl7 : P7.length = 64 := by rw [hP7, List.length_map, Hlk.out]
        have HP6 := Lib.hid hP6
        have HP7 := Lib.hid hP7
        have HL6 := Lib.hid hl6
        have HL7 := Lib.hid hl7
        clear hP6 hP7 hl6 hl7
        have hBq : Below w.heap.size w wq := hB3.trans (hB.mono hB3.size)
        have ho3q := ho3.below hB ho3.lt
        obtain ⟨y, hy⟩ : ∃ y, y = sha (P6 ++ x) := ⟨_, rfl⟩
        have hyl : y.length = 32 := by rw [hy]; exact length_sha _
        have HYd := Lib.hid hy
        have HYl := Lib.hid hyl
        clear hy hyl
        go_wp2_with (first
          | (at_builtin
             first
             | (refine wpList_append_o _ rfl (.tmp 39) (.tmp 40) 22 rfl 5 i0 (.int .u8 0) 1 1 Try.underlying22 hi0 hz0 hz1 hz2 rfl (by omega) (.slice A6 64 c6') 64 (byteVals P6) rfl ho6 B m d (byteVals x) rfl (by have := hx.keep hBq; unfold Bytes at this; rwa [← Hm.out] at this) (byteVals_one _) (by simp only [maxLen]; omega) (by omega) ?_
                intro v8 w8 hown8 hf8 hr8
                obtain ⟨A8, c8', hv8, -, -⟩ := hown8.shape
                subst hv8
                have ho78 : Own w8 5 1 (.slice A7 64 c7') 64 (byteVals P7) := ho7.fr hf8 (fun k hk hk7 => hne k hk hk7)
                have hB8 : Below w.heap.size w w8 := hBq.trans (hf8.below hBq.size (fun k hk => by have := hr6 k hk; have := hB3.size; omega))
                have ho38 := ho3q.fr hf8 (ho6.blk_ne ho3q (by decide))
                have hby8 : Bytes w8 A8 (P6 ++ x) := by
                  have h := Src.of_own hown8
                  have e : (P6 ++ x).length = 64 + m := by rw [List.length_append, HL6.out, ← Hm.out]
                  unfold Bytes
                  rw [e, byteVals_append]; exact h
                have hk8 := rof_any (P6 ++ x) A8 (64 + m) c8' w8 (by rw [List.length_append, HL6.out, ← Hm.out]) hby8 (by rw [List.length_append, HL6.out, ← Hm.out]; omega)
                rw [← HYd.out] at hk8
                have HK8 := Lib.hid hk8
                clear hk8)
             | (refine wpList_append_o _ rfl (.tmp 43) (.tmp 44) 22 rfl 5 i0 (.int .u8 0) 1 1 Try.underlying22 hi0 hz0 hz1 hz2 rfl (by omega) (.slice A7 64 c7') 64 (byteVals P7) rfl ho710 (some ⟨w9.heap.size, 0, none⟩) 32 32 (byteVals y) rfl hsy (byteVals_one _) (by simp only [maxLen]; omega) (by omega) ?_
                intro v11 w11 hown11 hf11 hr11
                obtain ⟨A11, c11', hv11, -, -⟩ := hown11.shape
                subst hv11
                have hB11 : Below w.heap.size w w11 := hB10.trans (hf11.below hB10.size (fun k hk => by have := hr7 k hk; have := hB3.size; omega))
                have ho311 := ho310.fr hf11 (ho710.blk_ne ho310 (by decide))
                have hby11 : Bytes w11 A11 (P7 ++ y) := by
                  have h := Src.of_own hown11
                  have e : (P7 ++ y).length = 64 + 32 := by rw [List.length_append, HL7.out, HYl.out]
                  unfold Bytes
                  rw [e, byteVals_append]; exact h
                have HK11 := Lib.hid (rof_any (P7 ++ y) A11 (64 + 32) c11' w11 (by rw [List.length_append, HL7.out, HYl.out]) hby11 (by rw [List.length_append, HL7.out, HYl.out]; omega))))
          | (go_at_call 24
             first
             | (refine HK11.out.mono ?_
                rintro e w12 ⟨rfl, hb12⟩
                have hB12 : Below w.heap.size w w12 := hB11.trans (hb12.mono hB11.size)
                have ho312 := ho311.below hb12 ho311.lt)
             | (refine HK8.out.mono ?_
                rintro e w9 ⟨rfl, hb9⟩
                have hB9 : Below w.heap.size w w9 := hB8.trans (hb9.mono hB8.size)
                have ho39 := ho38.below hb9 ho38.lt
                have ho79 := ho78.fr (Fr.of_below hb9 nob) (fun _ h => h.elim)))
          | (with_reducible refine wpList_alloc_run rfl 25 rfl zeroOut alloc25 ?_)
          | (refine wpList_store_blk rfl 25 (.tmp 10) (.tmp 42) rfl w9.heap.size 25 zeroOut (byteVals y).toArray rfl rfl (Blk.new w9 25 zeroOut) (by simp [byteVals, HYl.out, zeroOut]) (by rw [show (byteVals y).toArray.size = 32 by simp [byteVals, HYl.out]]; kernel_rfl) (all_oneCell_toArray (byteVals_one _)) ?_
             intro w10 hb10 hf10
             have hF10 : Fr nob w9 w10 := ((Fr.refl nob w9).alloc (.cells zeroOut 25)).then hf10 (fun i hi => Or.inr (by unfold one at hi; omega))
             have hB10 : Below w.heap.size w w10 := hB9.trans (hF10.below_nob.mono hB9.size)
             have ho310 := ho39.fr hF10 (fun h => h)
             have ho710 := ho79.fr hF10 (fun _ h => h.elim)
             have hsy : Src w10 1 (some ⟨w9.heap.size, 0, none⟩) 32 (byteVals y) := ⟨by rw [length_byteVals, HYl.out], fun _ => ⟨w9.heap.size, 0, rfl, hb10.lt, fun j u hj => by rw [hb10.cell, Nat.zero_add]; simpa using hj⟩⟩
             simp only [Act.put, List.setIfInBounds_toArray, List.set_cons_zero, List.set_cons_succ])
          | (refine wpList_store_blk rfl 25 (.tmp 4) (.tmp 46) rfl w.heap.size 25 zeroOut (shaV (P7 ++ y)) rfl rfl ho312 (zero_shaV _) (info_shaV _) (one_shaV _) ?_
             intro w13 hb13 hf13)
          | fail)
        exact bodyPost_ret (v := .agg (shaV (P7 ++ y))) (by
          refine results_cell_row (cs := shaV (P7 ++ y)) rfl _ _ w.heap.size 25 (0, 0) _ rfl hb13 Try.underlying25 rfl (info_shaV _)) rfl
          ⟨by rw [HYd.out, HP6.out, HP7.out, HK6.out]; rfl, hB12.trans (hf13.below hB12.size (fun k hk => by cases hk; exact Nat.le_refl _))⟩
end Go.Proofs.Ytnlkjhhocehhaaa
