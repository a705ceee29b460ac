/- The law SealFits: a header fits just if it is the one that is made, whichever text it is. For every input. -/
import Derived.Test.YtnlkjhhocehhaaaFits
import Derived.Test.YtnlkjhhocehhaaaRefRound
import Derived.Test.YtnlkjhhocehhaaaDigestOnly
namespace Go.Proofs.Ytnlkjhhocehhaaa
open Go Go.RowKit Go.Proofs
theorem no_x (k x : List UInt8) : ∀ c ∈ headerOf k x, c ≠ 120 := by
  intro c hc
  unfold headerOf at hc
  rw [List.mem_append] at hc
  rcases hc with hc | hc
  · rintro rfl; revert hc; decide
  · have := unhex_sign _ _ (unhex_hex (sealOf k x)) c hc
    rintro rfl
    revert this; decide
end Go.Proofs.Ytnlkjhhocehhaaa
namespace Go.Proofs.Ytnlkjhhocehhaaa.sealFits
open Go Go.RowKit Go.Proofs Go.Proofs.Ytnlkjhhocehhaaa Sha
set_option linter.unusedVariables false
set_option maxRecDepth 100000 in
set_option maxHeartbeats 4000000 in
theorem walk (a0 : Option Addr) (len0 cap0 : Nat) (z0 : List Int) (a1 : Option Addr) (len1 cap1 : Nat) (z1 : List Int) (s : ByteArray) (z : Int) (w : World) (w0 : IsRow .u8 w a0 len0 cap0 z0) (w1 : IsRow .u8 w a1 len1 cap1 z1) (hsm : s.size ≤ maxLen) (hz : (Lit.int .i64 z).wf = true) :
    Calls Try.prog 13 #[.agg #[.slice a0 len0 cap0, .slice a1 len1 cap1], .string s, .int .i64 z] w fun e w' => e = .returned (.bool true) ∧ Below w.heap.size w w' := by
  obtain ⟨n, k, Hn, hn, hnc, hkl, hbk, hle0, hc0, -, HE0⟩ := early_arg w0
  obtain ⟨m, x, Hm, hm, hmc, hxl, hbx, hle1, hc1, -, HE1⟩ := early_arg w1
  clear w0 w1
  obtain ⟨h, hh⟩ : ∃ h, h = headerOf k x := ⟨_, rfl⟩
  have hhl : h.length = 71 := by rw [hh]; exact length_headerOf _ _
  have hnox : ∀ c ∈ h, c ≠ 120 := by rw [hh]; exact no_x k x
  obtain ⟨S, hS⟩ : ∃ S : ByteArray, S = ⟨h.toArray⟩ := ⟨_, rfl⟩
  have hSs : S.size = 71 := by rw [hS]; show h.toArray.size = 71; simp [hhl]
  have hSl : S.data.toList = h := by rw [hS]
  obtain ⟨q, hq, hrem⟩ := rem_u64 z 70
  have hrem' : (IntKind.u64.wrap z).tmod 71 = (q : Int) := hrem
  clear hrem
  have CH : Hid (∀ W, Below w.heap.size w W → Calls Try.prog 37 #[.slice a0 n cap0, .slice a1 m cap1] W fun e w' => e = .returned (.string S) ∧ Below W.heap.size W w') :=
    Lib.hid (fun W hW => by rw [hS, hh]; exact header_any k x a0 a1 n cap0 m cap1 W Hn.out Hm.out (hbk.keep hW) (hbx.keep hW) (by omega) (by omega))
  have CF : ∀ (t : ByteArray) (b : Bool), t.size ≤ maxLen → decide (t.data.toList = h) = b → ∀ W, Below w.heap.size w W → Calls Try.prog 43 #[.slice a0 n cap0, .slice a1 m cap1, .string t] W fun e w' => e = .returned (.bool b) ∧ Below W.heap.size W w' := fun t b ht hb W hW => by
    rw [← hb, hh]; exact fits_any k x a0 a1 n cap0 m cap1 t W Hn.out Hm.out (hbk.keep hW) (hbx.keep hW) (by omega) (by omega) ht
  have hml : (1000 : Nat) ≤ maxLen := by simp [maxLen]
  obtain ⟨O, hO⟩ : ∃ O : ByteArray, O = S.extract 0 q ++ ⟨#[120]⟩ ++ S.extract (q + 1) 71 := ⟨_, rfl⟩
  have hap : ∀ (p r : ByteArray), (p ++ r).data.toList = p.data.toList ++ r.data.toList := fun p r => by simp
  have hex : ∀ (p r : Nat), (S.extract p r).data.toList = (h.drop p).take (r - p) := fun p r => by
    rw [← hSl]; simp [List.drop_take, List.extract_eq_take_drop]
  have hOl : O.data.toList = h.take q ++ [120] ++ (h.drop (q + 1)).take (71 - (q + 1)) := by
    rw [hO, hap, hap, hex, hex]; simp
  have hOs : O.size = 71 := by
    show O.data.size = 71
    rw [← Array.length_toList, hOl]; simp [hhl]; omega
  have hT : ∀ t : ByteArray, t.data.toList.length = t.size := fun t => Array.length_toList
  have C1 := Lib.hid (CF S true (by omega) (decide_eq_true hSl))
  have C2 := Lib.hid (CF O false (by omega) (decide_eq_false (fun e => by
    have : (120 : UInt8) ∈ h := by rw [← e, hOl]; simp
    exact hnox 120 this rfl)))
  have hP : (S.extract 0 q).size = q := by rw [ByteArray.size_extract]; omega
  have C3 := Lib.hid (CF (S.extract 0 q) false (by omega) (decide_eq_false (fun e => by
    have := congrArg List.length e
    rw [hT, hP, hhl] at this; omega)))
  have hQ : (S ++ ⟨#[48]⟩).size = 72 := by rw [ByteArray.size_append, hSs]; rfl
  have C4 := Lib.hid (CF (S ++ ⟨#[48]⟩) false (by omega) (decide_eq_false (fun e => by
    have := congrArg List.length e
    rw [hT, hQ, hhl] at this; omega)))
  obtain ⟨b, hb⟩ : ∃ b, b = decide (s.data.toList = h) := ⟨_, rfl⟩
  have C5 := Lib.hid (CF s b hsm hb.symm)
  have hsS : (s.toList == S.toList) = b := by
    rw [hb, Bool.eq_iff_iff, beq_iff_eq, decide_eq_true_iff, ByteArray.toList_eq, ByteArray.toList_eq, hSl]
  have HO := Lib.hid hO
  clear hh hhl hnox hS hSl CF hO hap hex hOl hT hb
  obtain ⟨w1, hw1⟩ : ∃ w1, w1 = w.alloc (.cells #[.slice a0 len0 cap0, .slice a1 len1 cap1] 51) := ⟨_, rfl⟩
  have hB1 : Below w.heap.size w w1 := by rw [hw1]; exact (Below.refl _ _).alloc (Nat.le_refl _) _
  have hb1 : Blk w1 w.heap.size 51 #[.slice a0 len0 cap0, .slice a1 len1 cap1] := by rw [hw1]; exact Blk.new _ _ _
  have HW := Lib.hid hw1
  clear hw1
  go_enter Try.func13, Try.ntmps13
  go_wp2_with (first
    | (with_reducible refine wpList_box_blk rfl 51 (.tmp 0) rfl #[.slice a0 len0 cap0, .slice a1 len1 cap1] rfl ?_
       rw [← HW.out])
    | (go_at_call 33
       refine (lives33 w1).mono ?_
       rintro e w2 ⟨rfl, hb2⟩
       have hB2 : Below w.heap.size w w2 := hB1.trans (hb2.mono hB1.size)
       have hc2 := hb1.below hb2 hb1.lt
       have e0 := hc2.cell 0
       have e1 := hc2.cell 1
       simp at e0 e1
       have el := hc2.lt)
    | fail)
  have D0 := Lib.hid (HE0.out)
  refine wp_region_quiet_below (by kernel_rfl) (by kernel_rfl) ?_
  repeat (go_big_quiet_step (first
    | (go_at_call 34; exact regrown_same (HE0.out _))
    | (go_at_call 34; exact regrown_same (HE1.out _))))
  refine wpQuiet_nil ?_
  intro w3 hw3
  have hb3 := Re.below hw3
  clear hw3 e0 e1 el hc2
  have hB3 : Below w.heap.size w w3 := hB2.trans (hb3.mono hB2.size)
  have hq1 : IntKind.i64.wrap (q : Int) = q := IntWalk.i64_in _ (by omega)
  have hq2 : (q : Int) + 1 ≤ 71 := by omega
  have hq0 : (0 : Int) ≤ (q : Int) := by omega
  have hq3 : ((q : Int) + 1).toNat = q + 1 := by omega
  have hx1 : (S.extract 0 q ++ ⟨#[120]⟩).size = q + 1 := by rw [ByteArray.size_append, hP]; rfl
  have hx2 : (S.extract (q + 1) 71).size = 70 - q := by rw [ByteArray.size_extract]; omega
  go_wp2_with (first
    | (go_at_call 37
       refine (CH.out _ hB3).mono ?_
       rintro e w4 ⟨rfl, hb4⟩
       have hB4 : Below w.heap.size w w4 := hB3.trans (hb4.mono hB3.size))
    | fail)
  refine wp_region_quiet_below (by kernel_rfl) (by kernel_rfl) ?_
  repeat (go_big_quiet_step (fail))
  refine wpQuiet_nil ?_
  intro w5 hw5
  have hb5 := Re.below hw5
  clear hw5 hx1 hx2
  have hB5 : Below w.heap.size w w5 := hB4.trans (hb5.mono hB4.size)
  rw [← HO.out]
  have hq72 : (S ++ ⟨#[48]⟩ : ByteArray).size = 72 := hQ
  go_wp2_with (first
    | (go_at_call 43
       first
       | (refine (C1.out _ hB5).mono ?_
          rintro e v1 ⟨rfl, hv1⟩
          have hV1 : Below w.heap.size w v1 := hB5.trans (hv1.mono hB5.size)
          clear C1)
       | (refine (C2.out _ hV1).mono ?_
          rintro e v2 ⟨rfl, hv2⟩
          have hV2 : Below w.heap.size w v2 := hV1.trans (hv2.mono hV1.size)
          clear C2)
       | (refine (C3.out _ hV2).mono ?_
          rintro e v3 ⟨rfl, hv3⟩
          have hV3 : Below w.heap.size w v3 := hV2.trans (hv3.mono hV2.size)
          clear C3)
       | (refine (C4.out _ hV3).mono ?_
          rintro e v4 ⟨rfl, hv4⟩
          have hV4 : Below w.heap.size w v4 := hV3.trans (hv4.mono hV3.size)
          clear C4)
       | (refine (C5.out _ hV4).mono ?_
          rintro e v5 ⟨rfl, hv5⟩
          have hV5 : Below w.heap.size w v5 := hV4.trans (hv5.mono hV4.size)
          clear C5))
    | fail)
  go_ret
  exact ⟨rfl, hV5⟩
end Go.Proofs.Ytnlkjhhocehhaaa.sealFits
