/- The law BlockBits: of records, in one of which a byte of its digest is another one, just those ahead of it are told. For every input. -/
import Derived.Test.YtnlkjhhocehhaaaBits
import Derived.Test.YtnlkjhhocehhaaaMay
namespace Go.Proofs.Ytnlkjhhocehhaaa.blockBits
open Go Go.RowKit Go.Proofs Go.Proofs.Ytnlkjhhocehhaaa Sha Go.BigFrame
set_option linter.unusedVariables false
theorem wrap_u64' (n : Int) : IntKind.u64.wrap n = n % 18446744073709551616 := by
  unfold IntKind.wrap IntKind.signed IntKind.bits; simp
theorem rem_r (m : Nat) (hm : 0 < m) (z : Int) : ∃ r : Nat, r < m ∧ IntKind.u64.wrap z % (m : Int) = (r : Int) ∧ (IntKind.u64.wrap z).tmod (m : Int) = (r : Int) := by
  have h0 : 0 ≤ IntKind.u64.wrap z := by rw [wrap_u64']; omega
  have h1 := Int.emod_nonneg (IntKind.u64.wrap z) (show (m : Int) ≠ 0 by omega)
  have h2 := Int.emod_lt_of_pos (IntKind.u64.wrap z) (show (0 : Int) < (m : Int) by omega)
  exact ⟨(IntKind.u64.wrap z % (m : Int)).toNat, by omega, by omega, by rw [Int.tmod_eq_emod_of_nonneg h0]; omega⟩
set_option maxRecDepth 100000 in
set_option maxHeartbeats 8000000 in
theorem walk (a1 : Option Addr) (len1 cap1 : Nat) (ls : List (List UInt8)) (za zk : Int) (w : World) (hl1 : len1 = ls.length) (hc1 : len1 ≤ cap1) (hm1 : cap1 ≤ maxLen) (hP : RowsIn w a1 ls) :
    Calls Try.prog 15 #[.slice a1 len1 cap1, .int .i64 za, .int .i64 zk] w fun e w' => e = .returned (.bool true) ∧ Below w.heap.size w w' := by
  obtain ⟨i0, hi0, hz0, hz1, hz2⟩ := info_parts info5
  obtain ⟨i2, hi2, hy0, hy1, hy2⟩ := info_parts info22'
  obtain ⟨i3, hi3, hx0, hx1, hx2⟩ := info_parts info3
  have HL1 := Lib.hid hl1
  have HPP := Lib.hid hP
  clear hl1 hP
  go_enter Try.func15, Try.ntmps15
  go_wp2_with (first
    | (go_at_call 44
       refine (lives_any w).mono ?_
       rintro e w4 ⟨rfl, hB1⟩
       have HB4 := Lib.hid hB1
       clear hB1)
    | fail)
  go_loopw [7, 8, 9, 10] (fun c7 c8 c9 c10 wr => ∃ (i : Nat) (lo : List (List UInt8)), i ≤ len1 ∧ i ≤ 8 ∧ c10 = .int .i64 (i : Int) ∧ lo.length ≤ i ∧ (∀ x ∈ lo, x.length ≤ 300) ∧ Own wr 5 1 c7 (recs lo).length (byteVals (recs lo)) ∧ (∀ k, rowOf c7 k → w.heap.size ≤ k) ∧ LsA w wr c8 lo ∧ Own wr 3 1 c9 lo.length (endsV lo) ∧ (∀ k, rowOf c9 k → w.heap.size ≤ k) ∧ Below w.heap.size w wr) (fun _ _ _ c10 _ => 8 - (intOf c10).toNat)
  case atStart => exact ⟨0, [], by omega, by omega, rfl, by simp, (fun x hx => by cases hx), Own.nil _ _ _, (fun k hk => by cases hk), LsA.nil _ _, Own.nil _ _ _, (fun k hk => by cases hk), HB4.out⟩
  case round =>
    obtain ⟨i, lo, hi1, hi8, rfl, hlo, hlx3, ho, hr, hA, hE, hre, hB⟩ := hrel
    have hlx4 : ∀ x ∈ lo, x.length ≤ 4000 := fun x hx => Nat.le_trans (hlx3 x hx) (by omega)
    have HLX3 := Lib.hid hlx3
    have HLX := Lib.hid hlx4
    have HO := Lib.hid ho
    have HRR := Lib.hid hr
    have HAA := Lib.hid hA
    have HEE := Lib.hid hE
    have HRE := Lib.hid hre
    have HBW := Lib.hid hB
    have hrl := recs_le lo hlx4
    have HRL := Lib.hid hrl
    clear hlx3 hlx4 ho hr hA hE hre hB hrl
    by_cases hlt : i < len1 ∧ i < 8
    · obtain ⟨hl1, hl2⟩ := hlt
      have hd1 : decide ((i : Int) < (len1 : Int)) = true := decide_eq_true (by omega)
      have hd2 : decide ((i : Int) < 8) = true := decide_eq_true (by omega)
      obtain ⟨Bg, Bo, hBe, hBg, hBc⟩ := HPP.out (by have := HL1.out; omega)
      subst hBe
      obtain ⟨pv, hpc, hpa⟩ := hBc i (by have := HL1.out; omega)
      obtain ⟨p, hp⟩ : ∃ p, p = ls.getD i [] := ⟨_, rfl⟩
      rw [← hp] at hpa
      obtain ⟨PA, pc, hpv, hp1, hp2, hpb, hpn⟩ := hpa
      subst hpv
      obtain ⟨q, hq⟩ : ∃ q, q = p.length := ⟨_, rfl⟩
      rw [← hq] at hpc hp1
      obtain ⟨t, ht⟩ : ∃ t, t = min q 300 := ⟨_, rfl⟩
      have hti : min (q : Int) 300 = (t : Int) := by omega
      have htc : (t : Int) ≤ (pc : Int) := by omega
      have ht0 : (0 : Int) ≤ (t : Int) := by omega
      have hqx : (q : Int) ≤ 9223372036854775807 := by unfold maxLen at hp2; omega
      obtain ⟨x, hx⟩ : ∃ x, x = p.take t := ⟨_, rfl⟩
      have hxl : x.length = t := by rw [hx, List.length_take]; omega
      have hxb : Bytes w PA x := by rw [hx]; exact hpb.take t
      have htp : t ≤ pc := by omega
      have HXL := Lib.hid hxl
      have HXB := Lib.hid hxb
      have HPN := Lib.hid hpn
      have hcr : wr.cell? ⟨Bg, Bo + i, none⟩ = some (.slice PA q pc) := (HBW.out.cell (p := ⟨Bg, Bo + i, none⟩) hBg).trans hpc
      have hBgr : Bg < wr.heap.size := Nat.lt_of_lt_of_le hBg HBW.out.size
      have h0i : (0 : Int) ≤ (i : Int) := by omega
      have him : (i : Int) < (len1 : Int) := by omega
      have ht41 : t ≤ 300 := by omega
      clear hp hq ht hx hxl hxb hpb hpc hBc hpn
      go_wp2_with fail
      refine wp_region_quiet_lit (by kernel_rfl) (by kernel_rfl) ?_
      repeat (go_big_quiet_step (fail))
      refine wpQuiet_nil ?_
      intro w5 hw5
      obtain ⟨k5, hw5⟩ := hw5
      have hb5 : Below wr.heap.size wr w5 := by rw [hw5]; exact ⟨rfl, rfl, rfl, Nat.le_refl _, fun _ _ => rfl⟩
      have HB5 := Lib.hid hb5
      have HW5 := Lib.hid (HBW.out.trans (hb5.mono HBW.out.size))
      clear hw5 hb5 hcr
      have hrb : (recB x).length = 6 + t := by rw [length_recB, HXL.out]
      have HQ : Hid (∀ W, Below w.heap.size w W → Calls Try.prog 48 #[.slice PA t pc] W fun e w' => ∃ v, e = .returned (.tuple #[v, .int .i64 0]) ∧ Own w' 5 1 v (6 + t) (byteVals (recB x)) ∧ (∀ j, rowOf v j → W.heap.size ≤ j) ∧ Below W.heap.size W w') := Lib.hid (fun W hW => by
        have := record_any x PA pc W (by rw [HXL.out]; omega) (by rw [HXL.out]; exact htp) hp2 (HXB.out.keep hW) HPN.out
        rwa [HXL.out, hrb] at this)
      have HRB := Lib.hid hrb
      clear hrb
      obtain ⟨rl, hrl⟩ : ∃ rl, rl = (recs lo).length := ⟨_, rfl⟩
      have hrl4 : rl ≤ 40060 := by have := HRL.out; omega
      have HRLE := Lib.hid hrl
      have ho5 : Own w5 5 1 u7 rl (byteVals (recs lo)) := by rw [hrl]; exact Own.fr HO.out (Fr.of_below HB5.out nob) (fun _ h => h.elim)
      have HO5 := Lib.hid ho5
      have HE5 := Lib.hid (Own.fr HEE.out (Fr.of_below HB5.out nob) (fun _ h => h.elim))
      obtain ⟨us, hu1, hu2, hu3, hu4⟩ := HAA.out.keep HB5.out
      have HU1 := Lib.hid hu1
      have HU2 := Lib.hid hu2
      have HU3 := Lib.hid hu3
      have HU4 := Lib.hid hu4
      have HSX : Hid (Sl w (.slice PA t pc) x) := Lib.hid ⟨PA, pc, by rw [HXL.out], by rw [HXL.out]; exact htp, hp2, HXB.out, HPN.out⟩
      have hrt : ((rl + (6 + t) : Nat) : Int) = (rl : Int) + (6 + (t : Int)) := by omega
      have HRT := Lib.hid hrt
      clear hrt
      clear hrl ho5 hu1 hu2 hu3 hu4
      go_wp2_with (first
        | (go_at_call 48
           refine (HQ.out _ HW5.out).mono ?_
           rintro e w7 ⟨v6, rfl, ho6, hr6, hb6⟩
           obtain ⟨A6, c6, hv6, -, -⟩ := ho6.shape
           subst hv6
           have HW7 := Lib.hid (HW5.out.trans (hb6.mono HW5.out.size))
           have HO7 := Lib.hid (Own.fr HO5.out (Fr.of_below hb6 nob) (fun _ h => h.elim))
           have HU7 := Lib.hid (Own.fr HU2.out (Fr.of_below hb6 nob) (fun _ h => h.elim))
           have HE7 := Lib.hid (Own.fr HE5.out (Fr.of_below hb6 nob) (fun _ h => h.elim))
           have HSRC7 : Hid (Src w7 1 A6 (6 + t) (byteVals (recB x))) := Lib.hid (Src.of_own ho6)
           have HS67 := Lib.hid hb6.size
           clear ho6 hr6 hb6)
        | (refine wpList_append_o _ rfl (.tmp 49) (.tmp 50) 22 rfl 5 i0 (.int .u8 0) 1 1 Try.underlying22 hi0 hz0 hz1 hz2 (by rfl) (by omega) u7 rl (byteVals (recs lo)) (by rfl) HO7.out A6 (6 + t) c6 (byteVals (recB x)) (by rfl) HSRC7.out (byteVals_one _) (by simp only [maxLen]; omega) (by omega) ?_
           intro v8 w8 ho8 hf8 hr8
           have HO8 := Lib.hid ho8
           have HF8 := Lib.hid hf8
           have HR8 := Lib.hid hr8
           have HU8 : Hid (Own w8 22 1 u8 lo.length us) := Lib.hid (Own.fr HU7.out hf8 (own_disj HO7.out HU7.out (by decide)))
           have HE8 : Hid (Own w8 3 1 u9 lo.length (endsV lo)) := Lib.hid (Own.fr HE7.out hf8 (own_disj HO7.out HE7.out (by decide)))
           have HW8 := Lib.hid (HW7.out.trans (hf8.below HW7.out.size (fun k hk => HRR.out k hk)))
           obtain ⟨A8, c8, hv8, -, -⟩ := ho8.shape
           subst hv8
           clear ho8 hf8 hr8
           simp only [Act.put, List.setIfInBounds_toArray, List.set_cons_zero, List.set_cons_succ])
        | (refine wpList_append_o _ rfl (.tmp 52) (.tmp 54) 48 rfl 22 i2 (.slice none 0 0) 1 24 Try.underlying48 hi2 hy0 hy1 hy2 (by rfl) (by omega) u8 lo.length us (by rfl) (Own.fr HU8.out ((Fr.refl nob w8).alloc _) (fun _ h => h.elim)) (some ⟨w8.heap.size, 0, none⟩) 1 1 [.slice PA t pc] (by rfl) (Src.of_new w8 22 #[.slice PA t pc] 1 rfl) (by simp [Value.oneCell']) (by simp only [maxLen]; omega) (by omega) ?_
           intro v9 w9 ho9 hf9 hr9
           have h1 : Own (w8.alloc (.cells #[.slice PA t pc] 22)) 5 1 (.slice A8 (rl + (6 + t)) c8) (rl + (6 + t)) (byteVals (recs lo) ++ byteVals (recB x)) := Own.fr HO8.out ((Fr.refl nob w8).alloc _) (fun _ h => h.elim)
           have h2 : Own (w8.alloc (.cells #[.slice PA t pc] 22)) 22 1 u8 lo.length us := Own.fr HU8.out ((Fr.refl nob w8).alloc _) (fun _ h => h.elim)
           have h3 : Own (w8.alloc (.cells #[.slice PA t pc] 22)) 3 1 u9 lo.length (endsV lo) := Own.fr HE8.out ((Fr.refl nob w8).alloc _) (fun _ h => h.elim)
           have HO9 := Lib.hid (Own.fr h1 hf9 (own_disj h2 h1 (by decide)))
           have HE9 := Lib.hid (Own.fr h3 hf9 (own_disj h2 h3 (by decide)))
           have HU9 := Lib.hid ho9
           have s8 := HF8.out.size
           have s7 := HW7.out.size
           have r9 : ∀ k, rowOf v9 k → w.heap.size ≤ k := fun k hk => (hr9 k hk).elim (HU3.out k) (fun h => by simp only [World.size_alloc] at h; omega)
           have HR9 := Lib.hid r9
           have HW9 := Lib.hid ((HW8.out.alloc (HW8.out.size) (.cells #[.slice PA t pc] 22)).trans (hf9.below (by simp only [World.size_alloc]; omega) (fun k hk => HU3.out k hk)))
           clear ho9 hf9 hr9 h1 h2 h3 s8 s7 r9
           simp only [Act.put, List.setIfInBounds_toArray, List.set_cons_zero, List.set_cons_succ])
        | (refine wpList_append_o _ rfl (.tmp 56) (.tmp 59) 28 rfl 3 i3 (.int .i64 0) 1 8 Try.underlying28 hi3 hx0 hx1 hx2 (by rfl) (by omega) u9 lo.length (endsV lo) (by rfl) (Own.fr HE9.out ((Fr.refl nob w9).alloc _) (fun _ h => h.elim)) (some ⟨w9.heap.size, 0, none⟩) 1 1 [.int .i64 ((rl : Int) + (6 + (t : Int)))] (by rfl) (Src.of_new w9 3 #[.int .i64 ((rl : Int) + (6 + (t : Int)))] 1 rfl) (by simp [Value.oneCell']) (by simp only [maxLen]; omega) (by omega) ?_
           intro vA wA hoA hfA hrA
           simp only [Act.put, List.setIfInBounds_toArray, List.set_cons_zero, List.set_cons_succ])
        | fail)
      have s9 := HW9.out.size
      have r8 : ∀ k, rowOf (.slice A8 (rl + (6 + t)) c8) k → w.heap.size ≤ k := fun k hk => (HR8.out k hk).elim (HRR.out k) (fun h => by have := HW7.out.size; omega)
      have rA : ∀ k, rowOf vA k → w.heap.size ≤ k := fun k hk => (hrA k hk).elim (HRE.out k) (fun h => by simp only [World.size_alloc] at h; omega)
      have hE9 := Own.fr HE9.out ((Fr.refl nob w9).alloc (.cells #[.int .i64 ((rl : Int) + (6 + (t : Int)))] 3)) (fun _ h => h.elim)
      have hO9 := Own.fr HO9.out ((Fr.refl nob w9).alloc (.cells #[.int .i64 ((rl : Int) + (6 + (t : Int)))] 3)) (fun _ h => h.elim)
      have hU9 := Own.fr HU9.out ((Fr.refl nob w9).alloc (.cells #[.int .i64 ((rl : Int) + (6 + (t : Int)))] 3)) (fun _ h => h.elim)
      refine ⟨⟨i + 1, lo ++ [x], by omega, by omega, rfl, by rw [List.length_append, List.length_singleton]; omega, fun z hz => ?_, ?_, r8, ?_, ?_, rA, (HW9.out.alloc (HW9.out.size) _).trans (hfA.below (by simp only [World.size_alloc]; omega) (fun k hk => HRE.out k hk))⟩, by simp [intOf]; omega⟩
      · rcases List.mem_append.1 hz with hz | hz
        · exact HLX3.out z hz
        · obtain rfl : z = x := by simpa using hz
          rw [HXL.out]; omega
      · rw [recs_snoc, List.length_append, HRB.out, ← HRLE.out, byteVals_append]
        exact Own.fr hO9 hfA (own_disj hE9 hO9 (by decide))
      · exact LsA.snoc HU1.out (Own.fr hU9 hfA (own_disj hE9 hU9 (by decide))) HR9.out HU4.out HSX.out
      · rw [List.length_append, List.length_singleton, endsV_snoc, HXL.out, ← HRLE.out, HRT.out]
        exact hoA
    · obtain ⟨nl, hnl⟩ : ∃ nl, nl = lo.length := ⟨_, rfl⟩
      have HNL := Lib.hid hnl
      by_cases hn0 : nl = 0
      · have hz : ((nl : Int) == 0) = true := by rw [hn0]; rfl
        obtain ⟨A8, c8, hv8, -, -⟩ := (HAA.out.ls HBW.out).shape
        rw [← hnl] at hv8
        subst hv8
        clear hnl hn0
        have hw : i < len1 ∧ ¬ i < 8 ∨ ¬ i < len1 := by omega
        rcases hw with ⟨hl1, hl2⟩ | hl1
        · have hd1 : decide ((i : Int) < (len1 : Int)) = true := decide_eq_true (by omega)
          have hd2 : decide ((i : Int) < 8) = false := decide_eq_false (by omega)
          go_wp2_with fail
          go_ret
          exact ⟨rfl, HBW.out⟩
        · have hd1 : decide ((i : Int) < (len1 : Int)) = false := decide_eq_false (by omega)
          go_wp2_with fail
          go_ret
          exact ⟨rfl, HBW.out⟩
      · have hz : ((nl : Int) == 0) = false := by rw [beq_eq_false_iff_ne]; omega
        obtain ⟨j, hj, hj1, hj2⟩ := rem_r nl (by omega) za
        obtain ⟨r, hr, hr1, hr2⟩ := rem_r 4 (by omega) zk
        have HR1 : IntKind.u64.wrap zk % 4 = (r : Int) := hr1
        have HR2 : (IntKind.u64.wrap zk).tmod 4 = (r : Int) := hr2
        have hjl : j < lo.length := by omega
        obtain ⟨x, hx⟩ : ∃ x, x = lo.getD j [] := ⟨_, rfl⟩
        have hx3 : x.length ≤ 300 := by
          rw [hx]
          have : lo.getD j [] = lo[j] := by simp [hjl]
          rw [this]; exact HLX3.out _ (List.getElem_mem hjl)
        obtain ⟨pre, hpre⟩ : ∃ pre, pre = (recs (lo.take j)).length := ⟨_, rfl⟩
        obtain ⟨rl, hrl⟩ : ∃ rl, rl = (recs lo).length := ⟨_, rfl⟩
        have hfit : pre + (6 + x.length) ≤ rl := by
          have hlo : lo = lo.take j ++ x :: lo.drop (j + 1) := by rw [hx, show lo.getD j [] = lo[j] by simp [hjl], ← List.drop_eq_getElem_cons hjl, List.take_append_drop]
          have := congrArg (fun l => (recs l).length) hlo
          simp only [recs_append, recs_cons, List.length_append, length_recB] at this
          omega
        have hrl4 : rl ≤ 40060 := by have := HRL.out; omega
        obtain ⟨g8, o8, cap8, A6, c6, hv8, hg8, hc8, -, -, -, -⟩ := (HAA.out.ls HBW.out).at_ j hjl
        have hjc : j ≤ cap8 := by
          obtain ⟨A8, c8', hv8', hsc8, -⟩ := (HAA.out.ls HBW.out).shape
          rw [hv8] at hv8'
          injection hv8' with _ _ e3
          omega
        have hjc2 : (j : Int) ≤ (cap8 : Int) := by omega
        obtain ⟨g9, o9, cap9, hv9, hg9, -, hcell9⟩ := HEE.out.cells (by omega)
        have hc9 := hcell9 j _ (endsV_get lo j hjl)
        rw [← hx, ← hpre] at hc9
        obtain ⟨E, hE⟩ : ∃ E, E = pre + (6 + x.length) := ⟨_, rfl⟩
        rw [← hE] at hc9
        rw [← hx] at hc8
        obtain ⟨xl, hxl⟩ : ∃ xl, xl = x.length := ⟨_, rfl⟩
        rw [← hxl] at hc8 hE hfit hx3
        have hO := HO.out
        rw [← hrl] at hO
        obtain ⟨g7, o7, cap7, hv7, hg7, hrow7, hcell7⟩ := hO.cells (by omega)
        obtain ⟨cur7, hblk7⟩ := hO.own_block hrow7
        have hfz7 := fun i => hblk7.frozen i
        clear hblk7 hrow7
        obtain ⟨p, hp⟩ : ∃ p, p = pre + 2 + r := ⟨_, rfl⟩
        obtain ⟨b0, hb0⟩ : ∃ b0, b0 = (recs lo).getD p 0 := ⟨_, rfl⟩
        have hc7 := hcell7 p _ (byteVals_get (recs lo) p (by omega))
        rw [← hb0] at hc7
        have hc7' : wr.cell? ⟨g7, o7 + p, none⟩ = some (.int .u8 (n8 b0)) := hc7
        clear hc7
        have hxor : bits .xor .u8 (n8 b0) 1 = n8 (b0 ^^^ 1) := xor_byte b0 1
        obtain ⟨F, hF⟩ : ∃ F, F = pre + 6 := ⟨_, rfl⟩
        have hEF : (E : Int) - (xl : Int) = (F : Int) := by omega
        have hFP : (F : Int) - 4 + (r : Int) = (p : Int) := by omega
        have hFF : (F : Int) - 6 = (pre : Int) := by omega
        have hE4 : E ≤ 40060 := by omega
        have hF4 : F ≤ 40060 := by omega
        have hF6 : 6 ≤ F := by omega
        have hprl : (p : Int) < (rl : Int) := by omega
        have hp0 : (0 : Int) ≤ (p : Int) := by omega
        have hjn : (j : Int) < (nl : Int) := by omega
        have hj0 : (0 : Int) ≤ (j : Int) := by omega
        have hj8 : j ≤ 8 := by omega
        have hwn : IntKind.u64.wrap (nl : Int) = (nl : Int) := by rw [wrap_u64']; omega
        have hnz : ¬ (nl : Int) = 0 := by omega
        have hnz2 : ¬ nl = 0 := hn0
        rw [← hnl] at hv8 hv9
        subst hv7 hv8 hv9
        have HO7 := Lib.hid hO
        have HX := Lib.hid hx
        have HPRE := Lib.hid hpre
        have HRLE := Lib.hid hrl
        have HPP2 := Lib.hid hp
        have HB0 := Lib.hid hb0
        have HFIT := Lib.hid hfit
        have HJL := Lib.hid hjl
        clear hnl hn0 hr1 hr2 hx hpre hrl hcell9 hcell7 hE hxl hO hp hb0 hF hfit hjl
        have hw : i < len1 ∧ ¬ i < 8 ∨ ¬ i < len1 := by omega
        rcases hw with ⟨hl1, hl2⟩ | hl1
        · have hd1 : decide ((i : Int) < (len1 : Int)) = true := decide_eq_true (by omega)
          have hd2 : decide ((i : Int) < 8) = false := decide_eq_false (by omega)
          go_wp2_with fail
          refine wp_region_quiet_lit (by kernel_rfl) (by kernel_rfl) ?_
          repeat (go_big_quiet_step (fail))
          refine wpQuiet_nil ?_
          intro w5 hw5
          obtain ⟨k5, hw5⟩ := hw5
          subst hw5
          have hOd : Own (wr.drewN k5) 5 1 (.slice (some ⟨g7, o7, none⟩) rl cap7) rl (byteVals (recs lo)) := Own.fr HO7.out ((Fr.refl nob wr).drewN k5) (fun _ h => h.elim)
          obtain ⟨hset, hfs⟩ := Own.set_byte hOd p (by omega) (b0 ^^^ 1)
          obtain ⟨wS, hwS⟩ : ∃ wS, (wr.drewN k5).setCell ⟨g7, o7 + p, none⟩ (.int .u8 (n8 (b0 ^^^ 1))) = wS := ⟨_, rfl⟩
          have hset2 : Own wS 5 1 (.slice (some ⟨g7, o7, none⟩) rl cap7) rl (byteVals ((recs lo).set p (b0 ^^^ 1))) := by rw [← hwS]; exact hset
          have hfs2 : Fr (rowOf (.slice (some ⟨g7, o7, none⟩) rl cap7)) (wr.drewN k5) wS := by rw [← hwS]; exact hfs
          have hAd : LsA w (wr.drewN k5) (.slice (some ⟨g8, o8, none⟩) nl cap8) lo := HAA.out.keep ⟨rfl, rfl, rfl, Nat.le_refl _, fun _ _ => rfl⟩
          have HAS := Lib.hid ((hAd.frr hOd (by decide) hfs2).take HNL.out j (by omega))
          have hbd : Below w.heap.size w (wr.drewN k5) := HBW.out.trans ⟨rfl, rfl, rfl, Nat.le_refl _, fun _ _ => rfl⟩
          have HBS := Lib.hid (hbd.trans (hfs2.below hbd.size (fun k hk => HRR.out k hk)))
          have hsl : ((recs lo).set p (b0 ^^^ 1)).length = rl := by rw [List.length_set, HRLE.out]
          have hbits := bits_scan lo HLX.out j HJL.out r hr p (by rw [← HPRE.out]; exact HPP2.out) (b0 ^^^ 1) (by rw [← HB0.out]; exact xor1_ne b0)
          have hsS : Sl wS (.slice (some ⟨g7, o7, none⟩) rl cap7) ((recs lo).set p (b0 ^^^ 1)) := Sl.of_own (by rw [hsl]; exact hset2)
          obtain ⟨-, q1, q2, q3, q4⟩ := hsS.sl_eq
          have hsc := scan_any ((recs lo).set p (b0 ^^^ 1)) (some ⟨g7, o7, none⟩) cap7 wS q3 (by omega) (by omega) q2 q4
          rw [hsl, hbits, ← HPRE.out] at hsc
          have HSC := Lib.hid hsc
          clear hOd hset hfs hset2 hfs2 hAd hbd hsl hbits hsS q1 q2 q3 q4 hsc
          have hlt8 : (lo.take j).length ≤ 1000000 := by rw [List.length_take]; omega
          go_wp2_with (first
            | simp only [hwS]
            | (go_at_call 45
               refine HSC.out.mono ?_
               rintro e w6 ⟨v6, rfl, hv6, hb6⟩
               have HSM := Lib.hid (same_any (lo.take j) v6 (.slice (some ⟨g8, o8, none⟩) j cap8) w6 hv6.ls ((HAS.out.ls HBS.out).keep hb6) hlt8)
               have HW6 := Lib.hid (HBS.out.trans (hb6.mono HBS.out.size))
               clear hv6 hb6)
            | (go_at_call 47
               refine HSM.out.mono ?_
               rintro e w7 ⟨rfl, hb7⟩)
            | fail)
          go_ret
          exact ⟨rfl, HW6.out.trans (hb7.mono HW6.out.size)⟩
        · have hd1 : decide ((i : Int) < (len1 : Int)) = false := decide_eq_false (by omega)
          go_wp2_with fail
          refine wp_region_quiet_lit (by kernel_rfl) (by kernel_rfl) ?_
          repeat (go_big_quiet_step (fail))
          refine wpQuiet_nil ?_
          intro w5 hw5
          obtain ⟨k5, hw5⟩ := hw5
          subst hw5
          have hOd : Own (wr.drewN k5) 5 1 (.slice (some ⟨g7, o7, none⟩) rl cap7) rl (byteVals (recs lo)) := Own.fr HO7.out ((Fr.refl nob wr).drewN k5) (fun _ h => h.elim)
          obtain ⟨hset, hfs⟩ := Own.set_byte hOd p (by omega) (b0 ^^^ 1)
          obtain ⟨wS, hwS⟩ : ∃ wS, (wr.drewN k5).setCell ⟨g7, o7 + p, none⟩ (.int .u8 (n8 (b0 ^^^ 1))) = wS := ⟨_, rfl⟩
          have hset2 : Own wS 5 1 (.slice (some ⟨g7, o7, none⟩) rl cap7) rl (byteVals ((recs lo).set p (b0 ^^^ 1))) := by rw [← hwS]; exact hset
          have hfs2 : Fr (rowOf (.slice (some ⟨g7, o7, none⟩) rl cap7)) (wr.drewN k5) wS := by rw [← hwS]; exact hfs
          have hAd : LsA w (wr.drewN k5) (.slice (some ⟨g8, o8, none⟩) nl cap8) lo := HAA.out.keep ⟨rfl, rfl, rfl, Nat.le_refl _, fun _ _ => rfl⟩
          have HAS := Lib.hid ((hAd.frr hOd (by decide) hfs2).take HNL.out j (by omega))
          have hbd : Below w.heap.size w (wr.drewN k5) := HBW.out.trans ⟨rfl, rfl, rfl, Nat.le_refl _, fun _ _ => rfl⟩
          have HBS := Lib.hid (hbd.trans (hfs2.below hbd.size (fun k hk => HRR.out k hk)))
          have hsl : ((recs lo).set p (b0 ^^^ 1)).length = rl := by rw [List.length_set, HRLE.out]
          have hbits := bits_scan lo HLX.out j HJL.out r hr p (by rw [← HPRE.out]; exact HPP2.out) (b0 ^^^ 1) (by rw [← HB0.out]; exact xor1_ne b0)
          have hsS : Sl wS (.slice (some ⟨g7, o7, none⟩) rl cap7) ((recs lo).set p (b0 ^^^ 1)) := Sl.of_own (by rw [hsl]; exact hset2)
          obtain ⟨-, q1, q2, q3, q4⟩ := hsS.sl_eq
          have hsc := scan_any ((recs lo).set p (b0 ^^^ 1)) (some ⟨g7, o7, none⟩) cap7 wS q3 (by omega) (by omega) q2 q4
          rw [hsl, hbits, ← HPRE.out] at hsc
          have HSC := Lib.hid hsc
          clear hOd hset hfs hset2 hfs2 hAd hbd hsl hbits hsS q1 q2 q3 q4 hsc
          have hlt8 : (lo.take j).length ≤ 1000000 := by rw [List.length_take]; omega
          go_wp2_with (first
            | simp only [hwS]
            | (go_at_call 45
               refine HSC.out.mono ?_
               rintro e w6 ⟨v6, rfl, hv6, hb6⟩
               have HSM := Lib.hid (same_any (lo.take j) v6 (.slice (some ⟨g8, o8, none⟩) j cap8) w6 hv6.ls ((HAS.out.ls HBS.out).keep hb6) hlt8)
               have HW6 := Lib.hid (HBS.out.trans (hb6.mono HBS.out.size))
               clear hv6 hb6)
            | (go_at_call 47
               refine HSM.out.mono ?_
               rintro e w7 ⟨rfl, hb7⟩)
            | fail)
          go_ret
          exact ⟨rfl, HW6.out.trans (hb7.mono HW6.out.size)⟩
end Go.Proofs.Ytnlkjhhocehhaaa.blockBits
