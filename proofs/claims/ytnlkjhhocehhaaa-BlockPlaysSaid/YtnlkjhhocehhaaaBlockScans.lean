/- The law BlockScans: the record of any bytes, and the records of any bytes. For every input. -/
import Derived.Test.YtnlkjhhocehhaaaLives
import Derived.Test.YtnlkjhhocehhaaaRefScan
namespace Go.Proofs.Ytnlkjhhocehhaaa
open Go Go.RowKit Go.Proofs
set_option linter.unusedVariables false
/-- A row of byte slices, as it comes in. -/
def RowsIn (w : World) (A : Option Addr) (ls : List (List UInt8)) : Prop := 0 < ls.length → ∃ g o, A = some ⟨g, o, none⟩ ∧ g < w.heap.size ∧ ∀ i, i < ls.length → ∃ v, w.cell? ⟨g, o + i, none⟩ = some v ∧ Sl w v (ls.getD i [])
theorem Sl.take {w : World} {u : Value} {x : List UInt8} {A : Option Addr} {n c : Nat} (h : Sl w (.slice A n c) x) (m : Nat) : Sl w (.slice A (min m n) c) (x.take m) := by
  obtain ⟨A', c', e, h1, h2, h3, h4⟩ := h
  injection e with e1 e2 e3
  subst e1 e2 e3
  exact ⟨_, _, by rw [List.length_take], by rw [List.length_take]; omega, h2, h3.take m, h4⟩
theorem Sl.sl_eq {w : World} {A : Option Addr} {n c : Nat} {x : List UInt8} (h : Sl w (.slice A n c) x) : n = x.length ∧ n ≤ c ∧ c ≤ maxLen ∧ Bytes w A x ∧ (A = none → c = 0) := by
  obtain ⟨A', c', e, h1, h2, h3, h4⟩ := h
  injection e with e1 e2 e3
  subst e1 e2 e3
  exact ⟨rfl, h1, h2, h3, h4⟩
theorem recs_snoc (l : List (List UInt8)) (x : List UInt8) : recs (l ++ [x]) = recs l ++ recB x := by rw [recs_append, recs_cons, recs_nil, List.append_nil]
theorem recs_le : ∀ (l : List (List UInt8)), (∀ x ∈ l, x.length ≤ 4000) → (recs l).length ≤ l.length * 4006
  | [], _ => by simp [recs_nil]
  | x :: l, h => by
    have ih := recs_le l (fun y hy => h y (by simp [hy]))
    have hx := h x (by simp)
    rw [recs_cons, List.length_append, length_recB, List.length_cons]; omega
theorem scan_count : ∀ (n : Nat) (b : List UInt8), b.length ≤ n → (scanB b).1.length ≤ b.length
  | 0, b, h => by
    have : b = [] := List.eq_nil_of_length_eq_zero (by omega)
    subst this
    rw [scanB_nil]; simp
  | n + 1, b, h => by
    cases hn : nextB b with
    | none => rw [scanB_none hn]; simp
    | some x =>
      have h1 := nextB_len hn
      have hd : (b.drop (6 + x.length)).length = b.length - (6 + x.length) := List.length_drop
      have ih := scan_count n (b.drop (6 + x.length)) (by omega)
      rw [scanB_some hn]
      simp only [List.length_cons]
      omega
end Go.Proofs.Ytnlkjhhocehhaaa
namespace Go.Proofs.Ytnlkjhhocehhaaa.blockScans
open Go Go.RowKit Go.Proofs Go.Proofs.Ytnlkjhhocehhaaa Sha Go.BigFrame
set_option linter.unusedVariables false
set_option maxRecDepth 100000 in
set_option maxHeartbeats 8000000 in
theorem walk (a0 : Option Addr) (len0 cap0 : Nat) (b : List UInt8) (a1 : Option Addr) (len1 cap1 : Nat) (ls : List (List UInt8)) (w : World) (w0 : Sl w (.slice a0 len0 cap0) b) (hl1 : len1 = ls.length) (hc1 : len1 ≤ cap1) (hm1 : cap1 ≤ maxLen) (hP : RowsIn w a1 ls) :
    Calls Try.prog 14 #[.slice a0 len0 cap0, .slice a1 len1 cap1] w fun e w' => e = .returned (.bool true) ∧ Below w.heap.size w w' := by
  obtain ⟨i0, hi0, hz0, hz1, hz2⟩ := info_parts info5
  obtain ⟨i2, hi2, hy0, hy1, hy2⟩ := info_parts info22'
  obtain ⟨hbl, hb1, hb2, hb3, hb4⟩ := w0.sl_eq
  obtain ⟨m, hm⟩ : ∃ m, m = min len0 3000 := ⟨_, rfl⟩
  have hmi : min (len0 : Int) 3000 = (m : Int) := by omega
  have hm0 : (0 : Int) ≤ (m : Int) := by omega
  have hmc : (m : Int) ≤ (cap0 : Int) := by omega
  have hlx : (len0 : Int) ≤ 9223372036854775807 := by unfold maxLen at hb2; omega
  obtain ⟨y, hy⟩ : ∃ y, y = b.take m := ⟨_, rfl⟩
  have hyl : y.length = m := by rw [hy, List.length_take]; omega
  have hyb : Bytes w a0 y := by rw [hy]; exact hb3.take m
  have HYL := Lib.hid hyl
  have HYB := Lib.hid hyb
  have HL1 := Lib.hid hl1
  have HPP := Lib.hid hP
  have hm3 : m ≤ 3000 := by omega
  have hmc' : m ≤ cap0 := by omega
  obtain ⟨N, hN⟩ : ∃ N, (scanB y).2 = N := ⟨_, rfl⟩
  obtain ⟨L, hL⟩ : ∃ L, (scanB y).1 = L := ⟨_, rfl⟩
  have hLl : L.length ≤ 1000000 := by
    have := scan_count _ y (Nat.le_refl _)
    rw [hL] at this
    omega
  have HN := Lib.hid hN
  have HL := Lib.hid hL
  have HLL := Lib.hid hLl
  have HS : Hid (∀ W, Below w.heap.size w W → Calls Try.prog 45 #[.slice a0 m cap0] W fun e w' => ∃ v, e = .returned (.tuple #[v, .int .i64 (N : Int)]) ∧ Ls w' v L ∧ Below W.heap.size W w') := Lib.hid (fun W hW => by
    have := scan_any y a0 cap0 W (HYB.out.keep hW) (by omega) (by omega) hb2 hb4
    rw [hyl, hN, hL] at this
    refine this.mono ?_
    rintro e w' ⟨v, h1, h2, h3⟩
    exact ⟨v, h1, h2.ls, h3⟩)
  have HR : Hid (∀ W, Below w.heap.size w W → Calls Try.prog 46 #[.slice a0 m cap0] W fun e w' => ∃ v, e = .returned (.tuple #[v, .int .i64 (N : Int)]) ∧ Ls w' v L ∧ Below W.heap.size W w') := Lib.hid (fun W hW => by
    have := rscan_any y a0 cap0 W (HYB.out.keep hW) (by omega) (by omega) hb2 hb4
    rw [hyl, hN, hL] at this
    refine this.mono ?_
    rintro e w' ⟨v, h1, h2, h3⟩
    exact ⟨v, h1, h2.ls h3, h3⟩)
  clear hl1 hP w0 hbl hb3 hm hy hyl hyb hN hL hLl
  go_enter Try.func14, Try.ntmps14
  go_wp2_with (first
    | (go_at_call 44
       refine (lives_any w).mono ?_
       rintro e w1 ⟨rfl, hB1⟩
       have HB1 := Lib.hid hB1
       clear hB1)
    | (go_at_call 45
       refine (HS.out _ HB1.out).mono ?_
       rintro e w2 ⟨v2, rfl, hv2, hB2⟩
       have HV2 := Lib.hid hv2
       have HB2 := Lib.hid (HB1.out.trans (hB2.mono HB1.out.size))
       clear hv2 hB2)
    | (go_at_call 46
       refine (HR.out _ HB2.out).mono ?_
       rintro e w3 ⟨v3, rfl, hv3, hB3⟩
       have HSA := Lib.hid (same_any L v2 v3 w3 (HV2.out.keep hB3) hv3 HLL.out)
       have HB3 := Lib.hid (HB2.out.trans (hB3.mono HB2.out.size))
       clear hv3 hB3)
    | (go_at_call 47
       refine HSA.out.mono ?_
       rintro e w4 ⟨rfl, hB4⟩
       have HB4 := Lib.hid (HB3.out.trans (hB4.mono HB3.out.size))
       clear hB4)
    | fail)
  clear HS HR HSA HV2 HB1 HB2 HB3 HN HL HLL HYL HYB
  go_loopw [9, 10, 11] (fun c9 c10 c11 wr => ∃ (i : Nat) (lo : List (List UInt8)), i ≤ len1 ∧ i ≤ 10 ∧ c11 = .int .i64 (i : Int) ∧ lo.length ≤ i ∧ (∀ x ∈ lo, x.length ≤ 4000) ∧ Own wr 5 1 c9 (recs lo).length (byteVals (recs lo)) ∧ (∀ k, rowOf c9 k → w.heap.size ≤ k) ∧ LsA w wr c10 lo ∧ Below w.heap.size w wr) (fun _ _ c11 _ => 10 - (intOf c11).toNat)
  case atStart => exact ⟨0, [], by omega, by omega, rfl, by simp, (fun x hx => by cases hx), Own.nil _ _ _, (fun k hk => by cases hk), LsA.nil _ _, HB4.out⟩
  case round =>
    obtain ⟨i, lo, hi1, hi10, rfl, hlo, hlx4, ho, hr, hA, hB⟩ := hrel
    have HLX := Lib.hid hlx4
    have HO := Lib.hid ho
    have HRR := Lib.hid hr
    have HAA := Lib.hid hA
    have HBW := Lib.hid hB
    have hrl := recs_le lo hlx4
    have HRL := Lib.hid hrl
    clear hlx4 ho hr hA hB hrl
    by_cases hlt : i < len1 ∧ i < 10
    · obtain ⟨hl1, hl2⟩ := hlt
      have hd1 : decide ((i : Int) < (len1 : Int)) = true := decide_eq_true (by omega)
      have hd2 : decide ((i : Int) < 10) = true := decide_eq_true (by omega)
      obtain ⟨Bg, Bo, hBe, hBg, hBc⟩ := HPP.out (by have := HL1.out; omega)
      subst hBe
      obtain ⟨pv, hpc, hpa⟩ := hBc i (by have := HL1.out; omega)
      obtain ⟨p, hp⟩ : ∃ p, p = ls.getD i [] := ⟨_, rfl⟩
      rw [← hp] at hpa
      obtain ⟨PA, pc, hpv, hp1, hp2, hpb, hpn⟩ := hpa
      subst hpv
      obtain ⟨q, hq⟩ : ∃ q, q = p.length := ⟨_, rfl⟩
      rw [← hq] at hpc hp1
      obtain ⟨t, ht⟩ : ∃ t, t = min q 4100 := ⟨_, rfl⟩
      have hti : min (q : Int) 4100 = (t : Int) := by omega
      have htc : (t : Int) ≤ (pc : Int) := by omega
      have ht0 : (0 : Int) ≤ (t : Int) := by omega
      have hqx : (q : Int) ≤ 9223372036854775807 := by unfold maxLen at hp2; omega
      obtain ⟨x, hx⟩ : ∃ x, x = p.take t := ⟨_, rfl⟩
      have hxl : x.length = t := by rw [hx, List.length_take]; omega
      have hxb : Bytes w PA x := by rw [hx]; exact hpb.take t
      have htp : t ≤ pc := by omega
      have HXL := Lib.hid hxl
      have HXB := Lib.hid hxb
      have HPN := Lib.hid hpn
      have hcr : wr.cell? ⟨Bg, Bo + i, none⟩ = some (.slice PA q pc) := (HBW.out.cell (p := ⟨Bg, Bo + i, none⟩) hBg).trans hpc
      have hBgr : Bg < wr.heap.size := Nat.lt_of_lt_of_le hBg HBW.out.size
      have h0i : (0 : Int) ≤ (i : Int) := by omega
      have him : (i : Int) < (len1 : Int) := by omega
      have ht41 : t ≤ 4100 := by omega
      clear hp hq ht hx hxl hxb hpb hpc hBc hpn
      go_wp2_with fail
      refine wp_region_quiet_lit (by kernel_rfl) (by kernel_rfl) ?_
      repeat (go_big_quiet_step (fail))
      refine wpQuiet_nil ?_
      intro w5 hw5
      obtain ⟨k5, hw5⟩ := hw5
      have hb5 : Below wr.heap.size wr w5 := by rw [hw5]; exact ⟨rfl, rfl, rfl, Nat.le_refl _, fun _ _ => rfl⟩
      have HB5 := Lib.hid hb5
      have HW5 := Lib.hid (HBW.out.trans (hb5.mono HBW.out.size))
      clear hw5 hb5 hcr
      by_cases h4 : 4000 < t
      · have HQ := Lib.hid (fun (W : World) => record_long x PA pc W (by rw [HXL.out]; exact h4) (by rw [HXL.out]; unfold maxLen; omega))
        have HQ2 := Lib.hid (fun (W : World) => rrecord_long x PA pc W (by rw [HXL.out]; exact h4) (by rw [HXL.out]; unfold maxLen; omega))
        rw [HXL.out] at HQ HQ2
        have hbk := fun (W : World) => back_text W none 0 0 [] rfl (Bytes.nil _ _)
        go_wp2_with (first
          | (go_at_call 48
             refine (HQ.out _).mono ?_
             rintro e w6 ⟨rfl, rfl⟩)
          | (go_at_call 49
             refine (HQ2.out _).mono ?_
             rintro e w6 ⟨rfl, rfl⟩)
          | simp only [hbk]
          | fail)
        go_roundw
        case rel => exact ⟨i + 1, lo, by omega, by omega, by go_num, by omega, HLX.out, Own.fr HO.out (Fr.of_below HB5.out nob) (fun _ h => h.elim), HRR.out, HAA.out.keep HB5.out, HW5.out⟩
        case measure => simp [intOf]; omega
      · have hrb : (recB x).length = 6 + t := by rw [length_recB, HXL.out]
        have HQ : Hid (∀ W, Below w.heap.size w W → Calls Try.prog 48 #[.slice PA t pc] W fun e w' => ∃ v, e = .returned (.tuple #[v, .int .i64 0]) ∧ Own w' 5 1 v (6 + t) (byteVals (recB x)) ∧ (∀ j, rowOf v j → W.heap.size ≤ j) ∧ Below W.heap.size W w') := Lib.hid (fun W hW => by
          have := record_any x PA pc W (by rw [HXL.out]; omega) (by rw [HXL.out]; exact htp) hp2 (HXB.out.keep hW) HPN.out
          rwa [HXL.out, hrb] at this)
        have HQ2 : Hid (∀ W, Below w.heap.size w W → Calls Try.prog 49 #[.slice PA t pc] W fun e w' => ∃ v, e = .returned (.tuple #[v, .int .i64 0]) ∧ Own w' 5 1 v (6 + t) (byteVals (recB x)) ∧ (∀ j, rowOf v j → W.heap.size ≤ j) ∧ Below W.heap.size W w') := Lib.hid (fun W hW => by
          have := rrecord_any x PA pc W (by rw [HXL.out]; omega) (HXB.out.keep hW)
          rwa [HXL.out, hrb] at this)
        have HRB := Lib.hid hrb
        clear hrb
        obtain ⟨rl, hrl⟩ : ∃ rl, rl = (recs lo).length := ⟨_, rfl⟩
        have hrl4 : rl ≤ 40060 := by have := HRL.out; omega
        have HRLE := Lib.hid hrl
        have ho5 : Own w5 5 1 u9 rl (byteVals (recs lo)) := by rw [hrl]; exact Own.fr HO.out (Fr.of_below HB5.out nob) (fun _ h => h.elim)
        have HO5 := Lib.hid ho5
        obtain ⟨us, hu1, hu2, hu3, hu4⟩ := HAA.out.keep HB5.out
        have HU1 := Lib.hid hu1
        have HU2 := Lib.hid hu2
        have HU3 := Lib.hid hu3
        have HU4 := Lib.hid hu4
        have HSX : Hid (Sl w (.slice PA t pc) x) := Lib.hid ⟨PA, pc, by rw [HXL.out], by rw [HXL.out]; exact htp, hp2, HXB.out, HPN.out⟩
        clear hrl ho5 hu1 hu2 hu3 hu4
        go_wp2_with (first
          | (go_at_call 48
             refine (HQ.out _ HW5.out).mono ?_
             rintro e w6 ⟨v6, rfl, ho6, hr6, hb6⟩
             obtain ⟨A6, c6, hv6, -, -⟩ := ho6.shape
             subst hv6
             have HV6 := Lib.hid ho6
             have HR6 := Lib.hid hr6
             have HB6 := Lib.hid hb6
             have HW6 := Lib.hid (HW5.out.trans (hb6.mono HW5.out.size))
             clear ho6 hr6 hb6)
          | (go_at_call 49
             refine (HQ2.out _ HW6.out).mono ?_
             rintro e w7 ⟨v7, rfl, ho7, hr7, hb7⟩
             obtain ⟨A7, c7, hv7, -, -⟩ := ho7.shape
             subst hv7
             have hv67 : Own w7 5 1 (.slice A6 (6 + t) c6) (6 + t) (byteVals (recB x)) := Own.fr HV6.out (Fr.of_below hb7 nob) (fun _ h => h.elim)
             have hbk1 := back_text w7 A6 (6 + t) c6 (recB x) HRB.out.symm (by unfold Bytes; rw [HRB.out]; exact Src.of_own hv67)
             have hbk2 := back_text w7 A7 (6 + t) c7 (recB x) HRB.out.symm (by unfold Bytes; rw [HRB.out]; exact Src.of_own ho7)
             have HW7 := Lib.hid (HW6.out.trans (hb7.mono HW6.out.size))
             have h67 := HB6.out.trans (hb7.mono HB6.out.size)
             have HO7 := Lib.hid (Own.fr HO5.out (Fr.of_below h67 nob) (fun _ h => h.elim))
             have HU7 := Lib.hid (Own.fr HU2.out (Fr.of_below h67 nob) (fun _ h => h.elim))
             have HV7 := Lib.hid hv67
             have HSRC7 : Hid (Src w7 1 A6 (6 + t) (byteVals (recB x))) := Lib.hid (Src.of_own hv67)
             have HS67 := Lib.hid h67.size
             clear ho7 hr7 hb7 hv67 h67)
          | simp only [hbk1]
          | simp only [hbk2]
          | (refine wpList_append_o _ rfl (.tmp 88) (.tmp 89) 22 rfl 5 i0 (.int .u8 0) 1 1 Try.underlying22 hi0 hz0 hz1 hz2 (by rfl) (by omega) u9 rl (byteVals (recs lo)) (by rfl) HO7.out A6 (6 + t) c6 (byteVals (recB x)) (by rfl) HSRC7.out (byteVals_one _) (by simp only [maxLen]; omega) (by omega) ?_
             intro v8 w8 ho8 hf8 hr8
             have HO8 := Lib.hid ho8
             have HF8 := Lib.hid hf8
             have HR8 := Lib.hid hr8
             have HU8 : Hid (Own w8 22 1 u10 lo.length us) := Lib.hid (Own.fr HU7.out hf8 (own_disj HO7.out HU7.out (by decide)))
             have HW8 := Lib.hid (HW7.out.trans (hf8.below HW7.out.size (fun k hk => HRR.out k hk)))
             clear ho8 hf8 hr8 hbk1 hbk2
             simp only [Act.put, List.setIfInBounds_toArray, List.set_cons_zero, List.set_cons_succ])
          | (refine wpList_append_o _ rfl (.tmp 91) (.tmp 93) 48 rfl 22 i2 (.slice none 0 0) 1 24 Try.underlying48 hi2 hy0 hy1 hy2 (by rfl) (by omega) u10 lo.length us (by rfl) (Own.fr HU8.out ((Fr.refl nob w8).alloc _) (fun _ h => h.elim)) (some ⟨w8.heap.size, 0, none⟩) 1 1 [.slice PA t pc] (by rfl) (Src.of_new w8 22 #[.slice PA t pc] 1 rfl) (by simp [Value.oneCell']) (by simp only [maxLen]; omega) (by omega) ?_
             intro v9 w9 ho9 hf9 hr9
             simp only [Act.put, List.setIfInBounds_toArray, List.set_cons_zero, List.set_cons_succ])
          | fail)
        have s8 := HF8.out.size
        have s7 := HW7.out.size
        have r8 : ∀ k, rowOf v8 k → w.heap.size ≤ k := fun k hk => (HR8.out k hk).elim (HRR.out k) (fun h => by omega)
        have r9 : ∀ k, rowOf v9 k → w.heap.size ≤ k := fun k hk => (hr9 k hk).elim (HU3.out k) (fun h => by simp only [World.size_alloc] at h; omega)
        refine ⟨⟨i + 1, lo ++ [x], by omega, by omega, rfl, by rw [List.length_append, List.length_singleton]; omega, fun z hz => ?_, ?_, r8, LsA.snoc HU1.out ho9 r9 HU4.out HSX.out, (HW8.out.alloc (HW8.out.size) _).trans (hf9.below (by simp only [World.size_alloc]; omega) (fun k hk => HU3.out k hk))⟩, by simp [intOf]; omega⟩
        · rcases List.mem_append.1 hz with hz | hz
          · exact HLX.out z hz
          · obtain rfl : z = x := by simpa using hz
            rw [HXL.out]; omega
        · rw [recs_snoc, List.length_append, HRB.out, ← HRLE.out, byteVals_append]
          have h1 : Own (w8.alloc (.cells #[.slice PA t pc] 22)) 5 1 v8 (rl + (6 + t)) (byteVals (recs lo) ++ byteVals (recB x)) := Own.fr HO8.out ((Fr.refl nob w8).alloc _) (fun _ h => h.elim)
          have h2 : Own (w8.alloc (.cells #[.slice PA t pc] 22)) 22 1 u10 lo.length us := Own.fr HU8.out ((Fr.refl nob w8).alloc _) (fun _ h => h.elim)
          exact Own.fr h1 hf9 (own_disj h2 h1 (by decide))
    · have hall : Sl wr u9 (recs lo) := Sl.of_own HO.out
      obtain ⟨A9, c9, hu9, h91, h92, h93, h94⟩ := hall
      have hsc := scan_any (recs lo) A9 c9 wr h93 (by have := HRL.out; omega) h91 h92 h94
      rw [scan_exact lo HLX.out] at hsc
      subst hu9
      obtain ⟨rl, hrl⟩ : ∃ rl, rl = (recs lo).length := ⟨_, rfl⟩
      have hrl4 : rl ≤ 40060 := by have := HRL.out; omega
      rw [← hrl] at hsc
      have HSC := Lib.hid hsc
      simp only [← hrl]
      clear hsc hrl h91 h92 h93 h94
      have hw : i < len1 ∧ ¬ i < 10 ∨ ¬ i < len1 := by omega
      rcases hw with ⟨hl1, hl2⟩ | hl1
      · have hd1 : decide ((i : Int) < (len1 : Int)) = true := decide_eq_true (by omega)
        have hd2 : decide ((i : Int) < 10) = false := decide_eq_false (by omega)
        go_wp2_with (first
          | (go_at_call 45
             refine HSC.out.mono ?_
             rintro e w6 ⟨v6, rfl, hv6, hb6⟩
             have HSM := Lib.hid (same_any lo v6 u10 w6 hv6.ls ((HAA.out.ls HBW.out).keep hb6) (by omega))
             have HW6 := Lib.hid (HBW.out.trans (hb6.mono HBW.out.size))
             clear hv6 hb6)
          | (go_at_call 47
             refine HSM.out.mono ?_
             rintro e w7 ⟨rfl, hb7⟩)
          | fail)
        go_ret
        exact ⟨rfl, HW6.out.trans (hb7.mono HW6.out.size)⟩
      · have hd1 : decide ((i : Int) < (len1 : Int)) = false := decide_eq_false (by omega)
        go_wp2_with (first
          | (go_at_call 45
             refine HSC.out.mono ?_
             rintro e w6 ⟨v6, rfl, hv6, hb6⟩
             have HSM := Lib.hid (same_any lo v6 u10 w6 hv6.ls ((HAA.out.ls HBW.out).keep hb6) (by omega))
             have HW6 := Lib.hid (HBW.out.trans (hb6.mono HBW.out.size))
             clear hv6 hb6)
          | (go_at_call 47
             refine HSM.out.mono ?_
             rintro e w7 ⟨rfl, hb7⟩)
          | fail)
        go_ret
        exact ⟨rfl, HW6.out.trans (hb7.mono HW6.out.size)⟩
end Go.Proofs.Ytnlkjhhocehhaaa.blockScans
