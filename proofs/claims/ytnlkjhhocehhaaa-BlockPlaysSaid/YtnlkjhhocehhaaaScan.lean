/- Equal, next, Scan: the records of bytes. -/
import Derived.Test.YtnlkjhhocehhaaaRec
import Derived.Test.YtnlkjhhocehhaaaNow
namespace Go.Proofs.Ytnlkjhhocehhaaa
set_option linter.unusedVariables false
open Go Go.RowKit Go.Proofs Sha
theorem ext_take (x y : List UInt8) (h : x.length = y.length) (i : Nat) (hi : i < x.length) (he : x.take i = y.take i) (hx : x.getD i 0 = y.getD i 0) : x.take (i + 1) = y.take (i + 1) := by
  rw [List.take_succ_eq_append_getElem hi, List.take_succ_eq_append_getElem (by omega), he]
  have e1 : x.getD i 0 = x[i] := by simp [hi]
  have e2 : y.getD i 0 = y[i]'(by omega) := by simp [show i < y.length by omega]
  rw [← e1, ← e2, hx]
set_option maxRecDepth 100000 in
set_option maxHeartbeats 2000000 in
theorem equal_any (x y : List UInt8) (A B : Option Addr) (c d : Nat) (w : World) (hx : Bytes w A x) (hy : Bytes w B y) (hl : x.length ≤ 1000000) (hxy : x.length = y.length) :
    Calls Try.prog 93 #[.slice A x.length c, .slice B y.length d] w fun e w' => e = .returned (.bool (decide (x = y))) ∧ Below w.heap.size w w' := by
  have HX := Lib.hid hx
  have HY := Lib.hid hy
  obtain ⟨n, hn⟩ : ∃ n, n = x.length := ⟨_, rfl⟩
  rw [← hxy, ← hn]
  have hnn : ((n : Int) != (n : Int)) = false := by simp
  rw [← hn] at hl
  have HN := Lib.hid hn
  have HM := Lib.hid hxy
  clear hx hy hn hxy
  go_enter Try.func93, Try.ntmps93
  go_wp2_with fail
  go_loopw [13] (fun c13 wr => ∃ i : Nat, i ≤ n ∧ c13 = .int .i64 (i : Int) ∧ x.take i = y.take i ∧ Below w.heap.size w wr) (fun c13 _ => n - (intOf c13).toNat)
  case atStart => exact ⟨0, by omega, rfl, rfl, Below.refl _ _⟩
  case round =>
    obtain ⟨i, hi, rfl, he, hB⟩ := hrel
    have HE := Lib.hid he
    have HB := Lib.hid hB
    by_cases hin : i < n
    · have hd : decide ((i : Int) < (n : Int)) = true := decide_eq_true (by omega)
      obtain ⟨g1, o1, rfl, hg1, hc1⟩ := HX.out.at_ (by rw [← HN.out]; omega)
      obtain ⟨g2, o2, rfl, hg2, hc2⟩ := HY.out.at_ (by rw [← HM.out, ← HN.out]; omega)
      have h1 := (hB.cell (p := ⟨g1, o1 + i, none⟩) hg1).trans (hc1 i (by rw [← HN.out]; exact hin))
      have h2 := (hB.cell (p := ⟨g2, o2 + i, none⟩) hg2).trans (hc2 i (by rw [← HM.out, ← HN.out]; exact hin))
      have hgr1 : g1 < wr.heap.size := Nat.lt_of_lt_of_le hg1 hB.size
      have hgr2 : g2 < wr.heap.size := Nat.lt_of_lt_of_le hg2 hB.size
      have hi0 : (0 : Int) ≤ (i : Int) := by omega
      have hnx := ext_take x y HM.out i (by rw [← HN.out]; exact hin) he
      obtain ⟨p, hp⟩ : ∃ p, p = x.getD i 0 := ⟨_, rfl⟩
      obtain ⟨q, hq⟩ : ∃ q, q = y.getD i 0 := ⟨_, rfl⟩
      rw [← hp] at h1 hnx
      rw [← hq] at h2 hnx
      have HP := Lib.hid hp
      have HQ := Lib.hid hq
      have HNX := Lib.hid hnx
      clear hp hq hnx hc1 hc2 he hB
      by_cases hpq : p = q
      · have hne : (n8 p != n8 q) = false := by rw [bne_eq_false_iff_eq, hpq]
        have HPQ := Lib.hid hpq
        clear hpq
        go_wp2_with fail
        refine wp_region_quiet_below (by kernel_rfl) (by kernel_rfl) ?_
        repeat (go_big_quiet_step (fail))
        refine wpQuiet_nil ?_
        intro w2 hw2
        have hb2 := Re.below hw2
        clear hw2
        go_wp2_with fail
        go_roundw
        case rel => exact ⟨i + 1, by omega, by go_num, HNX.out HPQ.out, HB.out.trans (hb2.mono HB.out.size)⟩
        case measure => simp [intOf]; omega
      · have hne : (n8 p != n8 q) = true := by
          have := n8_beq p q
          unfold bne
          rw [this]
          simpa using hpq
        have hfin : decide (x = y) = false := decide_eq_false (fun e => hpq (by rw [HP.out, HQ.out, e]))
        clear hpq
        go_wp2_with fail
        refine wp_region_quiet_below (by kernel_rfl) (by kernel_rfl) ?_
        repeat (go_big_quiet_step (fail))
        refine wpQuiet_nil ?_
        intro w2 hw2
        have hb2 := Re.below hw2
        clear hw2
        go_wp2_with fail
        go_ret
        exact ⟨by first | rfl | (rw [hfin]; rfl), HB.out.trans (hb2.mono HB.out.size)⟩
    · obtain rfl : i = n := by omega
      have hd : decide ((i : Int) < (i : Int)) = false := decide_eq_false (by omega)
      have hfin : decide (x = y) = true := decide_eq_true (by
        have h1 := he
        rw [List.take_of_length_le (by rw [← HN.out]; omega), List.take_of_length_le (by rw [← HM.out, ← HN.out]; omega)] at h1
        exact h1)
      clear he
      go_wp2_with fail
      go_ret
      exact ⟨by first | rfl | (rw [hfin]; rfl), hB⟩
def nextN (b : List UInt8) : Nat := 6 + (b.getD 0 0).toNat + 256 * (b.getD 1 0).toNat
/-- What the record that begins bytes is of, if it is whole. -/
def nextB (b : List UInt8) : Option (List UInt8) :=
  if b.length < 6 then none else if b.length < nextN b ∨ 4006 < nextN b then none else if (sha ((b.take (nextN b)).drop 6)).take 4 = (b.take 6).drop 2 then some ((b.take (nextN b)).drop 6) else none
def NextAns (w : World) (r : Option (List UInt8)) (e : Ending) (w' : World) : Prop :=
  Below w.heap.size w w' ∧ match r with
      | none => e = .returned (.tuple #[.slice none 0 0, .int .i64 0])
      | some x => ∃ v, e = .returned (.tuple #[v, .int .i64 ((6 + x.length : Nat) : Int)]) ∧ Own w' 5 1 v x.length (byteVals x) ∧ ∀ j, rowOf v j → w.heap.size ≤ j
theorem part_bytes {w : World} {g o c k N : Nat} {b : List UInt8} (h : Bytes w (some ⟨g, o, none⟩) b) (hk : k ≤ N) (hN : N ≤ b.length) (hc : b.length ≤ c) :
    Bytes w (if c = k then some ⟨g, o, none⟩ else some ⟨g, o + k, none⟩) ((b.take N).drop k) ∧ ((b.take N).drop k).length = N - k := by
  have hl : ((b.take N).drop k).length = N - k := by rw [List.length_drop, List.length_take]; omega
  refine ⟨?_, hl⟩
  split
  · have : (b.take N).drop k = [] := List.eq_nil_of_length_eq_zero (by omega)
    rw [this]; exact Bytes.nil _ _
  · exact (h.take N).drop
set_option maxRecDepth 100000 in
set_option maxHeartbeats 2000000 in
theorem next_any (b : List UInt8) (A : Option Addr) (c : Nat) (w : World) (hb : Bytes w A b) (hl : b.length ≤ 1000000) (hc : b.length ≤ c) (hcm : c ≤ maxLen) :
    Calls Try.prog 79 #[.slice A b.length c] w fun e w' => NextAns w (nextB b) e w' := by
  have HB := Lib.hid hb
  obtain ⟨m, hm⟩ : ∃ m, m = b.length := ⟨_, rfl⟩
  rw [← hm] at hl hc ⊢
  have HM := Lib.hid hm
  by_cases h6 : m < 6
  · have hp : nextB b = none := by unfold nextB; rw [if_pos (by omega)]
    rw [hp]
    have hd : decide ((m : Int) < 6) = true := decide_eq_true (by omega)
    clear hb hm hp
    go_enter Try.func79, Try.ntmps79
    go_wp2_with fail
    go_ret2
    exact ⟨Below.refl _ _, rfl⟩
  · have hd : decide ((m : Int) < 6) = false := decide_eq_false (by omega)
    obtain ⟨g, o, rfl, hg, hcell⟩ := hb.at_ (by omega)
    have h0 := hcell 0 (by omega)
    have h1 := hcell 1 (by omega)
    rw [Nat.add_zero] at h0
    obtain ⟨N, hN⟩ : ∃ N, N = nextN b := ⟨_, rfl⟩
    obtain ⟨p, hp⟩ : ∃ p, p = b.getD 0 0 := ⟨_, rfl⟩
    obtain ⟨q, hq⟩ : ∃ q, q = b.getD 1 0 := ⟨_, rfl⟩
    have hNN : N = 6 + p.toNat + 256 * q.toNat := by rw [hN, hp, hq]; rfl
    rw [← hp] at h0
    rw [← hq] at h1
    have hp1 : 0 ≤ n8 p := by unfold n8; omega
    have hp2 : n8 p < 256 := by have := p.toNat_lt; unfold n8; omega
    have hq1 : 0 ≤ n8 q := by unfold n8; omega
    have hq2 : n8 q < 256 := by have := q.toNat_lt; unfold n8; omega
    have HNP := Lib.hid (show (N : Int) = 6 + n8 p + n8 q * 256 by rw [hNN]; unfold n8; omega)
    have HNX := Lib.hid hN
    have hm2 : 2 ≤ m := by omega
    have hp0 : nextB b = if m < N ∨ 4006 < N then none else if (sha ((b.take N).drop 6)).take 4 = (b.take 6).drop 2 then some ((b.take N).drop 6) else none := by
      unfold nextB
      rw [if_neg (by omega), ← hN, ← hm]
    have hN6 : 6 ≤ N := by omega
    by_cases hc1 : m < N ∨ 4006 < N
    · rw [hp0, if_pos hc1]
      clear hb hm hcell hp hq hN hNN hp0
      by_cases hc2 : m < N
      · have hd1 : decide ((m : Int) < (N : Int)) = true := decide_eq_true (by omega)
        have hd11 : decide (m < N) = true := decide_eq_true hc2
        go_enter Try.func79, Try.ntmps79
        go_wp2_with fail
        refine wp_region_quiet_below (by kernel_rfl) (by kernel_rfl) ?_
        repeat (go_big_quiet_step (fail))
        refine wpQuiet_nil ?_
        intro w2 hw2
        have hb2 := Re.below hw2
        rw [← HNP.out]
        clear hw2
        go_wp2_with fail
        go_ret2
        exact ⟨hb2, rfl⟩
      · have hd1 : decide ((m : Int) < (N : Int)) = false := decide_eq_false (by omega)
        have hd11 : decide (m < N) = false := decide_eq_false hc2
        have hd2 : decide ((4006 : Int) < (N : Int)) = true := decide_eq_true (by omega)
        have hd22 : decide (4006 < N) = true := decide_eq_true (by omega)
        go_enter Try.func79, Try.ntmps79
        go_wp2_with fail
        refine wp_region_quiet_below (by kernel_rfl) (by kernel_rfl) ?_
        repeat (go_big_quiet_step (fail))
        refine wpQuiet_nil ?_
        intro w2 hw2
        have hb2 := Re.below hw2
        rw [← HNP.out]
        clear hw2
        go_wp2_with fail
        go_ret2
        exact ⟨hb2, rfl⟩
    · rw [hp0, if_neg hc1]
      have hmN : N ≤ m := by omega
      have hN4 : N ≤ 4006 := by omega
      have hd1 : decide ((m : Int) < (N : Int)) = false := decide_eq_false (by omega)
      have hd11 : decide (m < N) = false := decide_eq_false (by omega)
      have hd2 : decide ((4006 : Int) < (N : Int)) = false := decide_eq_false (by omega)
      have hd22 : decide (4006 < N) = false := decide_eq_false (by omega)
      obtain ⟨hx, hxl⟩ := part_bytes (k := 6) (N := N) (c := c) hb hN6 (by omega) (by omega)
      obtain ⟨hy, hyl⟩ := part_bytes (k := 2) (N := 6) (c := c) hb (by omega) (by omega) (by omega)
      obtain ⟨x, hxx⟩ : ∃ x, x = (b.take N).drop 6 := ⟨_, rfl⟩
      obtain ⟨y, hyy⟩ : ∃ y, y = (b.take 6).drop 2 := ⟨_, rfl⟩
      rw [← hxx] at hx hxl ⊢
      rw [← hyy] at hy hyl ⊢
      obtain ⟨rr, hrr⟩ : ∃ rr, rr = if (sha x).take 4 = y then some x else none := ⟨_, rfl⟩
      rw [← hrr]
      have HRR := Lib.hid hrr
      have hc6 : ¬ c = 2 := by omega
      rw [if_neg hc6] at hy
      obtain ⟨A6, hA6⟩ : ∃ A6, A6 = if c = 6 then (some ⟨g, o, none⟩ : Option Addr) else some ⟨g, o + 6, none⟩ := ⟨_, rfl⟩
      rw [← hA6] at hx
      have HA6 := Lib.hid hA6
      have HX := Lib.hid hx
      have HY := Lib.hid hy
      have HXL := Lib.hid hxl
      have HYL := Lib.hid hyl
      have hNi : (N : Int) ≤ 4006 := by omega
      have hNm : (N : Int) ≤ (m : Int) := by omega
      have hNc : (N : Int) ≤ (c : Int) := by omega
      have h6N : (6 : Int) ≤ (N : Int) := by omega
      have hcb : (6 : Int) ≤ (c : Int) := by omega
      have hcN : N ≤ c := by omega
      clear hb hm hcell hp hq hN hNN hp0 hc1 hx hxl hy hyl hxx hyy hA6 hrr
      go_enter Try.func79, Try.ntmps79
      go_wp2_with fail
      refine wp_region_quiet_below (by kernel_rfl) (by kernel_rfl) ?_
      repeat (go_big_quiet_step (fail))
      refine wpQuiet_nil ?_
      intro w2 hw2
      have hb2 := Re.below hw2
      rw [← HNP.out]
      have HOF := Lib.hid (of_any x A6 (N - 6) (c - 6) w2 HXL.out.symm (HX.out.keep hb2) (by have := HXL.out; omega))
      clear hw2
      go_wp2_with (first
        | (with_reducible refine wpList_alloc_run rfl 25 rfl zeroOut alloc25 ?_)
        | (go_at_call 23
           rw [← HA6.out]
           refine HOF.out.mono ?_
           rintro e w3 ⟨rfl, hb3⟩
           have hf3 : Fr nob w w3 := Fr.of_below (hb2.trans (hb3.mono hb2.size)) nob)
        | (refine wpList_store_blk rfl 25 (.tmp 5) (.tmp 31) rfl w3.heap.size 25 zeroOut (shaV x) rfl rfl (Blk.new w3 25 zeroOut) (zero_shaV _) (info_shaV _) (one_shaV _) ?_
           intro w4 hb4 hf4
           simp only [Act.put, List.setIfInBounds_toArray, List.set_cons_zero, List.set_cons_succ])
        | fail)
      have hB4 : Below w.heap.size w w4 := ((hf3.alloc (.cells zeroOut 25)).then hf4 (fun i hi => Or.inr (by have := hf3.size; unfold one at hi; omega)) : Fr nob w w4).below_nob
      have hd4 : Bytes w4 (some ⟨w3.heap.size, 0, none⟩) ((sha x).take 4) := (bytes_shaV hb4).take 4
      have ht4 : ((sha x).take 4).length = 4 := by rw [List.length_take, length_sha]; rfl
      have HEQ := fun w' (hb : Below w4.heap.size w4 w') => equal_any ((sha x).take 4) y (some ⟨w3.heap.size, 0, none⟩) (some ⟨g, o + 2, none⟩) 32 (c - 2) w' (hd4.keep hb) ((HY.out.keep hB4).keep hb) (by rw [ht4]; omega) (by rw [ht4, HYL.out])
      rw [ht4, HYL.out] at HEQ
      have HEQ := Lib.hid HEQ
      have HB4 := Lib.hid hB4
      obtain ⟨t, ht⟩ : ∃ t, t = decide ((sha x).take 4 = y) := ⟨_, rfl⟩
      rw [← ht] at HEQ
      have HTT := Lib.hid ht
      obtain ⟨g4, hg4⟩ : ∃ g4, g4 = w3.heap.size := ⟨_, rfl⟩
      rw [← hg4] at HEQ ⊢
      clear hb4 hf4 hB4 hd4 ht4 ht hf3 hb2 hg4 hb3 h0 h1
      obtain ⟨wS, rfl⟩ : ∃ wS : World, wS = w4 := ⟨_, rfl⟩
      refine wp_region_pre 3 1 (by kernel_rfl) (by kernel_rfl) rfl ?_
      simp only [List.take_succ_cons, List.take_zero, List.drop_succ_cons, List.drop_zero]
      repeat (go_big_quiet_step (fail))
      refine wpQuiet_nil ?_
      intro w5 hb5
      have HE5 := Lib.hid (HEQ.out w5 hb5)
      cases t with
      | false =>
        have hif : ¬ (sha x).take 4 = y := by have := HTT.out; simpa using this.symm
        have hrn := HRR.out
        rw [if_neg hif] at hrn
        have HRN := Lib.hid hrn
        clear hif hrn
        go_wp2_with (first
          | (go_at_call 93
             refine HE5.out.mono ?_
             rintro e w6 ⟨rfl, hb6⟩)
          | fail)
        go_ret2
        have hB5 := HB4.out.trans (hb5.mono HB4.out.size)
        rw [HRN.out]
        exact ⟨hB5.trans (hb6.mono hB5.size), rfl⟩
      | true =>
        have hif : (sha x).take 4 = y := by have := HTT.out; simpa using this.symm
        have hrn := HRR.out
        rw [if_pos hif] at hrn
        have HRN := Lib.hid hrn
        clear hrn
        have HB5 := Lib.hid (HB4.out.trans (hb5.mono HB4.out.size))
        clear hif
        go_wp2_with (first
          | (go_at_call 93
             refine HE5.out.mono ?_
             rintro e w6 ⟨rfl, hb6⟩
             have hB6 := HB5.out.trans (hb6.mono HB5.out.size)
             have HCL := Lib.hid (clone_any A6 (N - 6) (c - 6) x w6 HXL.out.symm (HX.out.keep hB6) (by have := HXL.out; omega) (fun h => by have := HA6.out; rw [h] at this; split at this <;> cases this))
             have HB6 := Lib.hid hB6
             clear hB6 hb6)
          | (go_at_call 74
             rw [← HA6.out]
             refine HCL.out.mono ?_
             rintro e w7 ⟨v7, rfl, hown, hf7, hr7⟩
             obtain ⟨A7, c7, hv7, -, -⟩ := hown.shape
             subst hv7)
          | fail)
        go_ret2
        rw [HRN.out]
        refine ⟨HB6.out.trans (hf7.below_nob.mono HB6.out.size), _, ?_, hown, fun j hj => Nat.le_trans HB6.out.size (hr7 j hj)⟩
        have : 6 + x.length = N := by have := HXL.out; omega
        rw [this]
        rfl
end Go.Proofs.Ytnlkjhhocehhaaa
