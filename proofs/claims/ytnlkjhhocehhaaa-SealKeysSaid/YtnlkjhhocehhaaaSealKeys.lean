/- The law SealKeys: a key of more than 64 bytes is like its digest; one of fewer like itself with a byte 0 behind. For every input. -/
import Derived.Test.YtnlkjhhocehhaaaHeader
import Derived.Test.YtnlkjhhocehhaaaEq25
namespace Go.Proofs.Ytnlkjhhocehhaaa.sealKeys
open Go Go.RowKit Go.Proofs Go.Proofs.Ytnlkjhhocehhaaa Sha
set_option linter.unusedVariables false
set_option maxRecDepth 100000 in
set_option maxHeartbeats 2000000 in
theorem walk (a0 : Option Addr) (len0 cap0 : Nat) (z0 : List Int) (a1 : Option Addr) (len1 cap1 : Nat) (z1 : List Int) (w : World) (w0 : IsRow .u8 w a0 len0 cap0 z0) (w1 : IsRow .u8 w a1 len1 cap1 z1) :
    Calls Try.prog 8 #[.slice a0 len0 cap0, .slice a1 len1 cap1] w fun e w' => e = .returned (.bool true) ∧ Below w.heap.size w w' := by
  obtain ⟨n, k, Hn, hn, hnc, hkl, hbk, hle0, hc0, -, HE0⟩ := early_arg w0
  obtain ⟨m, x, Hm, hm, hmc, hxl, hbx, hle1, hc1, -, HE1⟩ := early_arg w1
  clear w0 w1
  obtain ⟨i0, hi0, hz0, hz1, hz2⟩ := info_parts info5
  go_enter Try.func8, Try.ntmps8
  by_cases hlong : 64 < n
  · go_wp2_with (first
      | (go_at_call 33
         refine (lives33 w).mono ?_
         rintro e w1 ⟨rfl, hb1⟩)
      | (go_at_call 34
         first
         | (refine (HE0.out w1).mono ?_
            rintro e w1' ⟨rfl, rfl⟩
            clear HE0)
         | (refine (HE1.out w1).mono ?_
            rintro e w1' ⟨rfl, rfl⟩
            have HK := Lib.hid (of_any k a0 n cap0 w1 Hn.out (hbk.keep hb1) (by omega))))
      | (go_at_call 23
         refine HK.out.mono ?_
         rintro e w2 ⟨rfl, hb2⟩
         have hB2 : Below w.heap.size w w2 := hb1.trans (hb2.mono hb1.size))
      | (with_reducible refine wpList_alloc_run rfl 25 rfl zeroOut alloc25 ?_)
      | (refine wpList_store_blk rfl 25 (.tmp 5) (.tmp 16) rfl w2.heap.size 25 zeroOut (shaV k) rfl rfl (Blk.new w2 25 zeroOut) (zero_shaV _) (info_shaV _) (one_shaV _) ?_
         intro w3 hb3 hf3)
      | fail)
    have hF3 : Fr nob w2 w3 := ((Fr.refl nob w2).alloc (.cells zeroOut 25)).then hf3 (fun i hi => Or.inr (by unfold one at hi; omega))
    have hB3 : Below w.heap.size w w3 := hB2.trans (hF3.below_nob.mono hB2.size)
    have heq := fun W => eq25 (sealOf k x) (sealOf k x) (length_seal _ _) (length_seal _ _) W
    simp only [decide_true] at heq
    have hbd : Bytes w3 (some ⟨w2.heap.size, 0, none⟩) (sha k) := bytes_shaV hb3
    have hs1 : sealOf (sha k) x = sealOf k x := seal_norm k x (by have := Hn.out; omega)
    have HS1 : Hid (∀ W, Below w3.heap.size w3 W → Calls Try.prog 35 #[.slice a0 n cap0, .slice a1 m cap1] W fun e w' => e = .returned (.agg (byteVals (sealOf k x)).toArray) ∧ Below W.heap.size W w') :=
      Lib.hid (fun W hW => seal_any k x a0 a1 n cap0 m cap1 W Hn.out Hm.out ((hbk.keep hB3).keep hW) ((hbx.keep hB3).keep hW) (by omega) (by omega))
    have HS2 : Hid (∀ W, Below w3.heap.size w3 W → Calls Try.prog 35 #[.slice (some ⟨w2.heap.size, 0, none⟩) 32 32, .slice a1 m cap1] W fun e w' => e = .returned (.agg (byteVals (sealOf k x)).toArray) ∧ Below W.heap.size W w') :=
      Lib.hid (fun W hW => by
        have := seal_any (sha k) x (some ⟨w2.heap.size, 0, none⟩) a1 32 32 m cap1 W (length_sha _).symm Hm.out (hbd.keep hW) ((hbx.keep hB3).keep hW) (by rw [length_sha]; omega) (by omega)
        rwa [hs1] at this)
    clear hs1 hbd
    simp only [Act.put, List.setIfInBounds_toArray, List.set_cons_zero, List.set_cons_succ]
    refine wp_region_quiet_below (by kernel_rfl) (by kernel_rfl) ?_
    repeat (go_big_quiet_step (first
      | (go_at_call 35; with_reducible exact regrown_below (HS1.out _ (below_regrown _ _ _)))
      | (go_at_call 35; with_reducible exact regrown_below (HS2.out _ (below_regrown _ _ _)))))
    refine wpQuiet_nil ?_
    intro w4 hw4
    have hb4 := Re.below hw4
    go_wp2_with fail
    go_ret
    exact ⟨rfl, hB3.trans (hb4.mono hB3.size)⟩
  · have hne : (decide (64 < (n : Int))) = false := by simp; omega
    by_cases h64 : n = 64
    · subst h64
      go_wp2_with (first
        | (go_at_call 33
           refine (lives33 w).mono ?_
           rintro e w1 ⟨rfl, hb1⟩)
        | (go_at_call 34
           first
           | (refine (HE0.out w1).mono ?_
              rintro e w1' ⟨rfl, rfl⟩
              clear HE0)
           | (refine (HE1.out w1).mono ?_
              rintro e w1' ⟨rfl, rfl⟩))
        | fail)
      go_ret
      exact ⟨rfl, hb1⟩
    · have hne2 : ((n : Int) == 64) = false := by simp; omega
      go_wp2_with (first
        | (go_at_call 33
           refine (lives33 w).mono ?_
           rintro e w1 ⟨rfl, hb1⟩)
        | (go_at_call 34
           first
           | (refine (HE0.out w1).mono ?_
              rintro e w1' ⟨rfl, rfl⟩
              clear HE0)
           | (refine (HE1.out w1).mono ?_
              rintro e w1' ⟨rfl, rfl⟩
              clear HE1
              have HK := Lib.hid (seal_any k x a0 a1 n cap0 m cap1 w1 Hn.out Hm.out (hbk.keep hb1) (hbx.keep hb1) (by omega) (by omega))))
        | (go_at_call 35
           first
           | (refine HK.out.mono ?_
              rintro e w2 ⟨rfl, hb2⟩
              have hB2 : Below w.heap.size w w2 := hb1.trans (hb2.mono hb1.size)
              clear HK)
           | (refine HK2.out.mono ?_
              rintro e w5 ⟨rfl, hb5⟩
              have hB5 := hB4.trans (hb5.mono hB4.size)))
        | (at_builtin
           first
           | (refine wpList_append_o _ rfl (.const (.slice none 0 0)) _ 22 rfl 5 i0 (.int .u8 0) 1 1 Try.underlying22 hi0 hz0 hz1 hz2 rfl (by omega) (.slice none 0 0) 0 [] rfl (Own.nil _ _ _) a0 n cap0 (byteVals k) rfl (by have := hbk.keep hB2; unfold Bytes at this; rwa [← Hn.out] at this) (byteVals_one k) (by simp only [maxLen]; omega) (by omega) ?_
              intro v1 w3 hown3 hf3 hr3
              rw [Nat.zero_add, List.nil_append] at hown3
              have hF3 : Fr nob w2 w3 := hf3.mono (fun k _ hk => by cases hk)
              have hB3 : Below w.heap.size w w3 := hB2.trans (hF3.below_nob.mono hB2.size)
              have hown3' : Own (w3.alloc (.cells #[.int .u8 0] 5)) 5 1 v1 n (byteVals k) := hown3.fr ((Fr.refl nob _).alloc _) (fun _ h => h.elim)
              have hsrc : Src (w3.alloc (.cells #[.int .u8 0] 5)) 1 (some ⟨w3.heap.size, 0, none⟩) 1 [.int .u8 0] := Src.of_new w3 5 #[.int .u8 0] 1 rfl)
           | (refine wpList_append_o _ rfl _ _ 22 rfl 5 i0 (.int .u8 0) 1 1 Try.underlying22 hi0 hz0 hz1 hz2 rfl (by omega) v1 n (byteVals k) rfl hown3' (some ⟨w3.heap.size, 0, none⟩) 1 1 [.int .u8 0] rfl hsrc (by simp [Value.oneCell']) (by simp only [maxLen]; omega) (by omega) ?_
              intro v2 w4 hown4 hf4 hr4
              obtain ⟨A2, cap2, rfl, hc21, hc22⟩ := hown4.shape
              have hB4 : Below w.heap.size w w4 := (hB3.alloc hB3.size (.cells #[.int .u8 0] 5)).trans (hf4.below (by simp; have := hB3.size; omega) (fun k hk => by
                rcases hr3 k hk with h | h
                · cases h
                · have := hB2.size; omega))
              have hy4 : Bytes w4 A2 (k ++ [0]) := by
                have h := Src.of_own hown4
                have e : (k ++ [0]).length = n + 1 := by rw [List.length_append, ← Hn.out]; rfl
                unfold Bytes
                rw [e, byteVals_append]; exact h
              have hs2 : sealOf (k ++ [0]) x = sealOf k x := seal_zero k x (by have := Hn.out; omega)
              have hk2 := seal_any (k ++ [0]) x A2 a1 (n + 1) cap2 m cap1 w4 (by rw [List.length_append, ← Hn.out]; rfl) Hm.out hy4 (hbx.keep hB4) (by simp; omega) (by omega)
              rw [hs2] at hk2
              have HK2 := Lib.hid hk2
              have heq := fun W => eq25 (sealOf k x) (sealOf k x) (length_seal _ _) (length_seal _ _) W
              simp only [decide_true] at heq
              clear hs2 hk2))
        | fail)
      go_ret
      exact ⟨rfl, hB5⟩
end Go.Proofs.Ytnlkjhhocehhaaa.sealKeys
