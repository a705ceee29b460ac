/- The law BlockCompacts: a room that is compacted has just those records. For every input. -/
import Derived.Test.YtnlkjhhocehhaaaStep
import Derived.Test.YtnlkjhhocehhaaaNils
namespace Go.Proofs.Ytnlkjhhocehhaaa.blockCompacts
open Go Go.RowKit Go.Proofs Go.Proofs.Ytnlkjhhocehhaaa Sha Go.BigFrame
set_option linter.unusedVariables false
theorem alloc75 (W : World) : (Instr.alloc 75 true (.tuple #[])).run Try.prog W = .ok (.pointer (some ⟨W.heap.size, 0, none⟩)) (W.alloc (.cells #[.slice none 0 0, .slice none 0 0, .slice none 0 0] 75)) := by kernel_rfl
theorem build75 (a0 a1 a2 : Option Addr) (n0 n1 n2 c0 c1 c2 : Nat) (W : World) : (Instr.build 75 #[(0, .slice a0 n0 c0), (1, .slice a1 n1 c1), (2, .slice a2 n2 c2)]).run Try.prog W = .ok (.agg #[.slice a0 n0 c0, .slice a1 n1 c1, .slice a2 n2 c2]) W := by kernel_rfl
theorem info75 : (Try.prog.info? 75).map (·.size) = some 3 := by kernel_rfl
set_option maxRecDepth 100000 in
set_option maxHeartbeats 8000000 in
theorem walk (A : Option Addr) (len0 c : Nat) (ls : List Wr) (a1 : Option Addr) (len1 cap1 : Nat) (wl : List (List UInt8)) (zr : Int) (w : World) (hI : WsI w A len0 c ls) (hl1 : len1 = wl.length) (hc1 : len1 ≤ cap1) (hm1 : cap1 ≤ maxLen) (hP : RowsIn w a1 wl) :
    Calls Try.prog 17 #[.slice A len0 c, .slice a1 len1 cap1, .int .i64 zr] w fun e w' => e = .returned (.bool true) ∧ Below w.heap.size w w' := by
  obtain ⟨i2, hi2, hy0, hy1, hy2⟩ := info_parts info22'
  obtain ⟨r, hr, hr1, hr2⟩ := rem_n 3 (by omega) zr
  have HR1 : IntKind.u64.wrap zr % 3 = (r : Int) := hr1
  have HR2 : (IntKind.u64.wrap zr).tmod 3 = (r : Int) := hr2
  have HI := Lib.hid hI
  have HL1 := Lib.hid hl1
  have HPP := Lib.hid hP
  clear hI hl1 hP hr1 hr2
  obtain ⟨fl, hfl⟩ : ∃ fl, fl = fewL ls := ⟨_, rfl⟩
  have HFL := Lib.hid hfl
  have HN : Hid (∀ W, Calls Try.prog 50 #[.int .i64 3] W fun e W' => ∃ d g vs, e = .returned (dP d) ∧ Dk W W' d g 3 vs (emptyD 3) false) := Lib.hid (fun W => (newD_any 3 3 (by decide) W).mono (by
    rintro e W' ⟨h1, h2⟩
    exact ⟨_, _, _, h1, h2⟩))
  have HF : Hid (∀ W, Below w.heap.size w W → Calls Try.prog 51 #[.slice A len0 c] W fun e W' => ∃ A1 c1 v2, e = .returned (.tuple #[.slice A1 fl.length c1, v2]) ∧ WsO W' (.slice A1 fl.length c1) fl ∧ (∀ k, rowOf (.slice A1 fl.length c1) k → W.heap.size ≤ k) ∧ Below W.heap.size W W') := Lib.hid (fun W hW => by
    refine (few_any A len0 c ls HI.out.1 (fun e he => ?_) hW).mono ?_
    · obtain ⟨h1, h2, h3, -, -⟩ := (HI.out.2 e he).sl_eq
      exact ⟨h2, h3⟩
    · rintro e W' ⟨v1, v2, h1, h2, h2r, -, -, h3⟩
      rw [← hfl] at h2
      obtain ⟨A1, c1, hv, -, -⟩ := WsO.shape h2
      subst hv
      exact ⟨A1, c1, v2, h1, h2, h2r, h3⟩)
  have HWR : Hid (∀ (w1 W : World) (d g : Nat) (vs : List Value) (A1 : Option Addr) (c1 : Nat), Dk w1 W d g 3 vs (emptyD 3) false → WsA W (dfoot d g 3 vs) A1 fl.length c1 fl → Calls Try.prog 52 #[dP d, .slice A1 fl.length c1] W fun e W' => ∃ code vs1 l1 L1, e = .returned (.int .i64 code) ∧ Dk w1 W' d g 3 vs1 l1 false ∧ Rooms 3 l1 L1) := Lib.hid (fun w1 W d g vs A1 c1 hD hA => by
    obtain ⟨hf1, hf2⟩ := few_len ls
    rw [← hfl] at hf1 hf2
    refine (write_any hD (by omega) A1 fl.length c1 fl hA hf1 hf2 (Rooms.empty 3).le).mono ?_
    rintro e W' ⟨rfl, vs1, h2, -, -⟩
    by_cases hz : mayD false ((emptyD 3).map List.length) fl = 0
    · rw [if_pos hz] at h2
      exact ⟨_, vs1, _, _, rfl, h2, (Rooms.empty 3).write hz⟩
    · rw [if_neg hz] at h2
      exact ⟨_, vs1, _, _, rfl, h2, Rooms.empty 3⟩)
  clear hfl
  go_enter Try.func17, Try.ntmps17
  go_wp2_with (first
    | (go_at_call 44
       refine (lives_any w).mono ?_
       rintro e w1 ⟨rfl, hB1⟩
       have HB1 := Lib.hid hB1
       clear hB1)
    | (go_at_call 50
       refine (HN.out _).mono ?_
       rintro e w2 ⟨d, g, vs0, rfl, hD2⟩
       have HD2 := Lib.hid hD2
       clear hD2)
    | (go_at_call 51
       refine (HF.out _ (HB1.out.trans (HD2.out.bel.mono HB1.out.size))).mono ?_
       rintro e w3 ⟨A1, c1, v2, rfl, hO3, hR3, hB3⟩
       have HD3 := Lib.hid (HD2.out.keep hB3)
       have hbw3 : Below w.heap.size w w3 := HB1.out.trans ((HD2.out.keep hB3).bel.mono HB1.out.size)
       have HA3 := Lib.hid (few_wsa HI.out hbw3 (fun k hk => Nat.le_trans HB1.out.size (HD2.out.foot_ge k hk)) HD2.out.foot_lt (by rw [← HFL.out]; exact hO3) (by rw [← HFL.out]; exact hR3))
       rw [← HFL.out] at HA3
       clear hO3 hR3 hB3 hbw3)
    | (go_at_call 52
       refine (HWR.out _ _ _ _ _ _ _ HD3.out HA3.out).mono ?_
       rintro e w4 ⟨code, vs1, l1, L1, rfl, hD4, hRM⟩
       have HD4 := Lib.hid hD4
       have HRM := Lib.hid hRM
       clear hD4 hRM)
    | (go_at_call 54
       refine (read_rooms HD4.out (by omega) HRM.out 0 (by omega)).mono ?_
       rintro e w5 ⟨A5, n5, c5, rfl, hL5, hB5⟩
       have HL5 := Lib.hid hL5
       have HB5 := Lib.hid hB5
       have HD5 := Lib.hid (HD4.out.keep hB5)
       clear hL5 hB5 HD4)
    | (go_at_call 54
       refine (read_rooms HD5.out (by omega) HRM.out 1 (by omega)).mono ?_
       rintro e w6 ⟨A6, n6, c6, rfl, hL6, hB6⟩
       have HL6 := Lib.hid hL6
       have HB6 := Lib.hid hB6
       have HD6 := Lib.hid (HD5.out.keep hB6)
       have HL56 := Lib.hid (HL5.out.keep hB6)
       clear hL6 hB6 HD5 HL5)
    | (go_at_call 54
       refine (read_rooms HD6.out (by omega) HRM.out 2 (by omega)).mono ?_
       rintro e w7 ⟨A7, n7, c7, rfl, hL7, hB7⟩
       have HL7 := Lib.hid hL7
       have HD7 := Lib.hid (HD6.out.keep hB7)
       have HL57 := Lib.hid (HL56.out.keep hB7)
       have HL67 := Lib.hid (HL6.out.keep hB7)
       clear hL7 hB7 HD6 HL56 HL6)
    | simp only [alloc75, build75]
    | (refine wpList_store_blk rfl 75 (.tmp 10) (.tmp 32) rfl w7.heap.size 75 #[.slice none 0 0, .slice none 0 0, .slice none 0 0] #[.slice A5 n5 c5, .slice A6 n6 c6, .slice A7 n7 c7] rfl rfl (Blk.new w7 75 _) rfl info75 (by simp [Value.oneCell']) ?_
       intro w8 hb8 hf8
       simp only [Act.put, List.setIfInBounds_toArray, List.set_cons_zero, List.set_cons_succ])
    | fail)
  obtain ⟨bW, hbW⟩ : ∃ bW, bW = w7.heap.size := ⟨_, rfl⟩
  rw [← hbW] at hb8 hf8 ⊢
  have hB78 : Below w7.heap.size w7 w8 := ((Below.refl _ w7).alloc (Nat.le_refl _) (.cells #[.slice none 0 0, .slice none 0 0, .slice none 0 0] 75)).trans (hf8.below (by simp) (fun k hk => by unfold one at hk; omega))
  have HD8 := Lib.hid (HD7.out.keep hB78)
  have hft := HD7.out.foot_lt
  have hNB : ¬ dfoot d g 3 vs1 bW := fun h => by have := hft _ h; omega
  obtain ⟨xs, hxs⟩ : ∃ xs : Array Value, xs = #[.slice A5 n5 c5, .slice A6 n6 c6, .slice A7 n7 c7] := ⟨_, rfl⟩
  rw [← hxs] at hb8
  have HB8 := Lib.hid hb8
  have HNB := Lib.hid hNB
  have hto : ∀ k, (dfoot d g 3 vs1 k ∨ k = bW) → dfoot d g 3 vs1 k ∨ w7.heap.size ≤ k := fun k hk => hk.imp id (fun h => by omega)
  have hLs : ∀ k, k < 3 → LsF (fun k => dfoot d g 3 vs1 k ∨ k = bW) w8 (xs.getD k undef) (L1.getD k []) := fun k hk => by
    rw [hxs]
    rcases k with _ | _ | _ | k
    · exact (HL57.out.to hto).keep hB78
    · exact (HL67.out.to hto).keep hB78
    · exact (HL7.out.to hto).keep hB78
    · omega
  have HLS := Lib.hid hLs
  have hxz : xs.size = 3 := by rw [hxs]; rfl
  have HXZ := Lib.hid hxz
  have hw8 : Below w.heap.size w w8 := HB1.out.trans (HD8.out.bel.mono HB1.out.size)
  have HW8 := Lib.hid hw8
  have hbl : bW < w8.heap.size := hb8.lt
  have HBL := Lib.hid hbl
  have hwb : w.heap.size ≤ bW := by have := HB1.out.size; have := HD7.out.bel.size; omega
  have HWB := Lib.hid hwb
  have HWB1 : Hid (w1.heap.size ≤ bW) := Lib.hid (by have := HD7.out.bel.size; omega)
  have HDW : Hid (∀ k, dfoot d g 3 vs1 k → w.heap.size ≤ k) := Lib.hid (fun k hk => by have := HD7.out.foot_ge k hk; have := HB1.out.size; omega)
  clear hb8 hf8 hbW hB78 hft hNB hxs hto hLs hxz hw8 hbl hwb HL57 HL67 HL7 HD7 HB5 HB6 HN HF HWR HFL HA3 HD3 HD2 HI
  go_loopw [11, 12] (fun c11 c12 wr => ∃ (i : Nat) (lo : List (List UInt8)), i ≤ len1 ∧ i ≤ 10 ∧ c12 = .int .i64 (i : Int) ∧ lo.length = i ∧ (∀ x ∈ lo, x.length ≤ 4100) ∧ LsB w8.heap.size w wr c11 lo ∧ Below w8.heap.size w8 wr) (fun _ c12 _ => 10 - (intOf c12).toNat)
  case atStart => exact ⟨0, [], by omega, by omega, rfl, rfl, (fun x hx => by cases hx), LsB.nil _ _ _, Below.refl _ _⟩
  case round =>
    obtain ⟨i, lo, hi1, hi10, rfl, hlo, hlx, hA, hB⟩ := hrel
    have HLO := Lib.hid hlo
    have HLX := Lib.hid hlx
    have HAA := Lib.hid hA
    have HBW := Lib.hid hB
    clear hlo hlx hA hB
    by_cases hlt : i < len1 ∧ i < 10
    · obtain ⟨hl1, hl2⟩ := hlt
      have hd1 : decide ((i : Int) < (len1 : Int)) = true := decide_eq_true (by omega)
      have hd2 : decide ((i : Int) < 10) = true := decide_eq_true (by omega)
      obtain ⟨Bg, Bo, hBe, hBg, hBc⟩ := HPP.out (by have := HL1.out; omega)
      subst hBe
      obtain ⟨pv, hpc, hpa⟩ := hBc i (by have := HL1.out; omega)
      obtain ⟨p, hp⟩ : ∃ p, p = wl.getD i [] := ⟨_, rfl⟩
      rw [← hp] at hpa
      obtain ⟨PA, pc, hpv, hp1, hp2, hpb, hpn⟩ := hpa
      subst hpv
      obtain ⟨q, hq⟩ : ∃ q, q = p.length := ⟨_, rfl⟩
      rw [← hq] at hpc hp1
      obtain ⟨t, ht⟩ : ∃ t, t = min q 4100 := ⟨_, rfl⟩
      have hti : min (q : Int) 4100 = (t : Int) := by omega
      have htc : (t : Int) ≤ (pc : Int) := by omega
      have ht0 : (0 : Int) ≤ (t : Int) := by omega
      have hqx : (q : Int) ≤ 9223372036854775807 := by unfold maxLen at hp2; omega
      obtain ⟨x, hx⟩ : ∃ x, x = p.take t := ⟨_, rfl⟩
      have hxl : x.length = t := by rw [hx, List.length_take]; omega
      have hxb : Bytes w PA x := by rw [hx]; exact hpb.take t
      have htp : t ≤ pc := by omega
      have HXL := Lib.hid hxl
      have HXB := Lib.hid hxb
      have HPN := Lib.hid hpn
      have hbw := HW8.out.trans (HBW.out.mono HW8.out.size)
      have hcr : wr.cell? ⟨Bg, Bo + i, none⟩ = some (.slice PA q pc) := (hbw.cell (p := ⟨Bg, Bo + i, none⟩) hBg).trans hpc
      have hBgr : Bg < wr.heap.size := Nat.lt_of_lt_of_le hBg hbw.size
      have h0i : (0 : Int) ≤ (i : Int) := by omega
      have him : (i : Int) < (len1 : Int) := by omega
      have ht41 : t ≤ 4100 := by omega
      have HT41 := Lib.hid ht41
      have HSX : Hid (Sl w (.slice PA t pc) x) := Lib.hid ⟨PA, pc, by rw [HXL.out], by rw [HXL.out]; exact htp, hp2, HXB.out, HPN.out⟩
      obtain ⟨us, hu1, hu2, hu3, hu4⟩ := HAA.out
      have HU1 := Lib.hid hu1
      have HU2 := Lib.hid hu2
      have HU3 := Lib.hid hu3
      have HU4 := Lib.hid hu4
      have hll : lo.length ≤ 10 := by rw [HLO.out]; exact hi10
      clear hp hq ht hx hxl hxb hpb hpc hBc hpn hu1 hu2 hu3 hu4 hbw
      go_wp2_with fail
      refine wp_region_late nob 12 1 1 (by kernel_rfl) (by kernel_rfl) rfl ?_
      simp only [List.take_succ_cons, List.take_zero, List.drop_succ_cons, List.drop_zero]
      repeat (go_big_quiet_step (fail))
      refine wpQuiet_nil ?_
      refine wpKeep_step rfl (fun K2 hK2 => ?_)
      go_simp
      refine hK2 _ _ ((Fr.refl _ _).alloc _).drew ?_
      clear hK2
      refine wpKeep_nil ?_
      refine wpList_append_o _ rfl (.tmp 47) (.tmp 59) 48 rfl 22 i2 (.slice none 0 0) 1 24 Try.underlying48 hi2 hy0 hy1 hy2 (by rfl) (by omega) u11 lo.length us (by rfl) (Own.fr HU2.out ((Fr.refl nob wr).alloc _).drew (fun _ h => h.elim)) (some ⟨wr.heap.size, 0, none⟩) 1 1 [.slice PA t pc] (by rfl) ((Src.of_new wr 22 #[.slice PA t pc] 1 rfl).fr (Fr.refl nob _).drew (fun _ _ _ _ h => h)) (by simp [Value.oneCell']) (by simp only [maxLen]; omega) (by omega) ?_
      intro v9 w9 ho9 hf9 hr9
      simp only [Act.put, List.setIfInBounds_toArray, List.set_cons_zero, List.set_cons_succ]
      go_wp2_with fail
      refine NoPan.normal ?_
      go_wp2_with fail
      go_roundw
      case rel =>
        have s8 := HBW.out.size
        have r9 : ∀ k, rowOf v9 k → w8.heap.size ≤ k := fun k hk => (hr9 k hk).elim (HU3.out k) (fun h => by have : wr.heap.size ≤ k := Nat.le_trans (by simp [World.size_alloc]) h; omega)
        refine ⟨i + 1, lo ++ [x], by omega, by omega, by go_num, by rw [List.length_append, HLO.out]; rfl, fun z hz => ?_, LsB.snoc HU1.out ho9 r9 HU4.out HSX.out, ((HBW.out.alloc (HBW.out.size) _).drew).trans (hf9.below (by simp [World.size_alloc]; omega) (fun k hk => HU3.out k hk))⟩
        rcases List.mem_append.1 hz with hz | hz
        · exact HLX.out z hz
        · obtain rfl : z = x := by simpa using hz
          rw [HXL.out]; exact HT41.out
      case measure => simp [intOf]; omega
    · have hll : lo.length ≤ 10 := by rw [HLO.out]; exact hi10
      have hLF : LsF (fun k => dfoot d g 3 vs1 k ∨ k = bW) wr u11 lo := HAA.out.far (HW8.out.trans (HBW.out.mono HW8.out.size)) (fun k hk => hk.elim (HDW.out k) (fun h => by rw [h]; exact HWB.out)) (fun k hk => hk.elim (fun h => HD8.out.foot_lt k h) (fun h => by rw [h]; exact HBL.out))
      obtain ⟨A9, c9, hv9, -, -⟩ := hLF.ls.shape
      obtain ⟨nl, hnl⟩ : ∃ nl, nl = lo.length := ⟨_, rfl⟩
      rw [← hnl] at hv9
      subst hv9
      have hD9 := HD8.out.keep HBW.out
      obtain ⟨cd, hcd⟩ : ∃ cd, cd = comD false 3 (r : Int) lo := ⟨_, rfl⟩
      have HC : Hid (Calls Try.prog 58 #[dP d, .int .i64 (r : Int), .slice A9 nl c9] wr fun e W' => e = .returned (.int .i64 cd) ∧ ∃ vs2 l2 L2, Dk w1 W' d g 3 vs2 l2 false ∧ Rooms 3 l2 L2 ∧ Fr (dfoot d g 3 vs1) wr W' ∧ (∀ k, dfoot d g 3 vs2 k → dfoot d g 3 vs1 k ∨ wr.heap.size ≤ k) ∧ L2 = if cd = 0 then L1.set r lo else L1) := Lib.hid (by
        refine (compact_any hD9 (by omega) A9 nl c9 lo hLF.ls (by omega) (fun x hx => by have := HLX.out x hx; omega) (r : Int)).mono ?_
        rintro e W' ⟨rfl, vs2, h1, h2, h3⟩
        rw [← hcd] at h1 ⊢
        refine ⟨rfl, vs2, _, _, h1, ?_, h2, dfoot_step h3, rfl⟩
        by_cases hz : cd = 0
        · rw [if_pos hz, if_pos hz, Int.toNat_natCast]
          obtain ⟨-, -, -, q1, q2⟩ := comD_zero (hcd.symm.trans hz)
          exact HRM.out.anew r hr lo q1 q2
        · rw [if_neg hz, if_neg hz]; exact HRM.out)
      have HL9 : Hid (∀ k, k < 3 → LsF (fun k => dfoot d g 3 vs1 k ∨ k = bW) wr (xs.getD k undef) (L1.getD k [])) := Lib.hid (fun k hk => (HLS.out k hk).keep HBW.out)
      have HB9 := Lib.hid (HB8.out.below HBW.out HB8.out.lt)
      have HLF := Lib.hid hLF
      have hr0i : (0 : Int) ≤ (r : Int) := by omega
      have hr3i : (r : Int) < 3 := by omega
      have hw : i < len1 ∧ ¬ i < 10 ∨ ¬ i < len1 := by omega
      clear hLF hnl hD9 hcd hll
      by_cases hz : cd = 0
      · subst hz
        rcases hw with ⟨hl1, hl2⟩ | hl1
        · have hd1 : decide ((i : Int) < (len1 : Int)) = true := decide_eq_true (by omega)
          have hd2 : decide ((i : Int) < 10) = false := decide_eq_false (by omega)
          go_wp2_with (first
            | (go_at_call 58
               refine HC.out.mono ?_
               rintro e w10 ⟨rfl, vs2, l2, L2, hD10, hR10, hF10, hS10, hL10⟩
               obtain ⟨hb10, hn10⟩ := blk_step HB9.out HNB.out hF10 hS10
               have hcw := hb10.cell r
               have hfz := hb10.frozen r
               rw [show xs[r]? = some (xs.getD r undef) by have := HXZ.out; simp [Array.getD_eq_getD_getElem?, show r < xs.size by omega]] at hcw
               have HD10 := Lib.hid hD10
               have HR10 := Lib.hid hR10
               have HF10 := Lib.hid hF10
               have HS10 := Lib.hid hS10
               have HL10 := Lib.hid hL10
               have HB10 := Lib.hid hb10
               have HN10 := Lib.hid hn10
               have hbl10 := hb10.lt
               clear hD10 hR10 hF10 hS10 hL10 hb10 hn10)
            | fail)
          have hFF : Fr (fun k => dfoot d g 3 vs1 k ∨ k = bW) wr w10 := HF10.out.mono (fun k _ hk => .inl hk)
          have hSS : ∀ k, (dfoot d g 3 vs2 k ∨ k = bW) → (dfoot d g 3 vs1 k ∨ k = bW) ∨ wr.heap.size ≤ k := fun k hk => by
            rcases hk with hk | hk
            · exact (HS10.out k hk).imp .inl id
            · exact .inl (.inr hk)
          have hFS : Fr (fun k => dfoot d g 3 vs2 k ∨ k = bW) w10 (w10.setCell ⟨bW, r, none⟩ (.slice A9 nl c9)) := (Fr.refl _ w10).setCell' (.inl (.inr rfl)) _
          have hFO : Fr (one bW) w10 (w10.setCell ⟨bW, r, none⟩ (.slice A9 nl c9)) := (Fr.refl (one bW) w10).setCell' (.inl rfl) _
          have hfin : ∃ vs2 l2 L2 xz, Dk w1 (w10.setCell ⟨bW, r, none⟩ (.slice A9 nl c9)) d g 3 vs2 l2 false ∧ Rooms 3 l2 L2 ∧ Blk (w10.setCell ⟨bW, r, none⟩ (.slice A9 nl c9)) bW 75 xz ∧ ¬ dfoot d g 3 vs2 bW ∧ xz.size = 3 ∧ ∀ k, k < 3 → LsF (fun k => dfoot d g 3 vs2 k ∨ k = bW) (w10.setCell ⟨bW, r, none⟩ (.slice A9 nl c9)) (xz.getD k undef) (L2.getD k []) := by
            refine ⟨vs2, l2, L2, _, HD10.out.frS hFO (fun k hk => by unfold one at hk; subst hk; exact HN10.out) (fun k hk => by unfold one at hk; subst hk; exact HWB1.out), HR10.out, HB10.out.set_ r _, HN10.out, by simp [HXZ.out], fun k hk => ?_⟩
            have hq : L2 = L1.set r lo := by simpa using HL10.out
            have hLn := HRM.out.2.1
            by_cases e : k = r
            · subst e
              rw [hq, show (L1.set k lo).getD k [] = lo by simp [List.getD_eq_getElem?_getD, show k < L1.length by omega], show (xs.setIfInBounds k (.slice A9 nl c9)).getD k undef = .slice A9 nl c9 by have := HXZ.out; simp [Array.getD_eq_getD_getElem?, show k < xs.size by omega]]
              exact (HLF.out.step hFF hSS).fr hFS
            · rw [hq, show (L1.set r lo).getD k [] = L1.getD k [] by simp only [List.getD_eq_getElem?_getD]; rw [List.getElem?_set_ne (fun h => e h.symm)], show (xs.setIfInBounds r (.slice A9 nl c9)).getD k undef = xs.getD k undef by simp only [Array.getD_eq_getD_getElem?]; rw [Array.getElem?_setIfInBounds_ne (fun h => e h.symm)]]
              exact ((HL9.out k hk).step hFF hSS).fr hFS
          clear hFF hSS hFS hFO
          obtain ⟨vsz, lz, Lz, xz, hDz, hRz, hBz, hNz, hxz, hLz⟩ := hfin
          have HRZ := Lib.hid hRz
          have HXX := Lib.hid hxz
          refine (part_none hDz (by omega) hRz).mono ?_
          rintro e w12 ⟨rfl, vs3, hD12, hF12, hS12⟩
          obtain ⟨hb12, hn12⟩ := blk_step hBz hNz hF12 hS12
          have hL12 : ∀ k, k < 3 → LsF (fun k => dfoot d g 3 vs3 k ∨ k = bW) w12 (xz.getD k undef) (Lz.getD k []) := fun k hk => (hLz k hk).step (hF12.mono (fun k _ hk => .inl hk)) (fun k hk => hk.elim (fun h => (hS12 k h).imp .inl id) (fun h => .inl (.inr h)))
          have HD12 := Lib.hid hD12
          have HB12 := Lib.hid hb12
          have HN12 := Lib.hid hn12
          have HL12 := Lib.hid hL12
          clear hDz hRz hBz hNz hxz hLz hD12 hF12 hS12 hb12 hn12 hL12
          go_wp2_with (first
            | (go_at_call 56
               refine (broken_any HD12.out).mono ?_
               rintro e w13 ⟨rfl, rfl⟩)
            | (go_at_call 57
               refine (up_rooms HD12.out (by omega) HRZ.out).mono ?_
               rintro e w13 ⟨A13, c13, rfl, hL13, vs4, hD13, hF13, hS13⟩
               obtain ⟨hb13, hn13⟩ := blk_step HB12.out HN12.out hF13 hS13
               have hLZ13 : ∀ k, k < 3 → Ls w13 (xz.getD k undef) (Lz.getD k []) := fun k hk => ((HL12.out k hk).step (hF13.mono (fun k _ hk => .inl hk)) (fun k hk => hk.elim (fun h => (hS13 k h).imp .inl id) (fun h => .inl (.inr h)) : ∀ k, (dfoot d g 3 vs4 k ∨ k = bW) → (dfoot d g 3 vs3 k ∨ k = bW) ∨ w12.heap.size ≤ k)).ls
               have HL13 := Lib.hid hL13
               have HB13 := Lib.hid hb13
               have HLZ := Lib.hid hLZ13
               have HW13 := Lib.hid (HB1.out.trans (hD13.bel.mono HB1.out.size))
               clear hL13 hD13 hF13 hS13 hb13 hn13 hLZ13)
            | fail)
          go_loopw [14] (fun c14 wq => ∃ k : Nat, k ≤ 3 ∧ c14 = .int .i64 (k : Int) ∧ Below w13.heap.size w13 wq) (fun c14 _ => 3 - (intOf c14).toNat)
          case atStart => exact ⟨0, by omega, rfl, Below.refl _ _⟩
          case round =>
            obtain ⟨k, hk, rfl, hBq⟩ := hrel
            have HBQ := Lib.hid hBq
            clear hBq
            by_cases hk3 : k < 3
            · have hd : decide ((k : Int) < 3) = true := decide_eq_true (by omega)
              obtain ⟨g3, o3, c3, u, hv3, hcu, hLu⟩ := HL13.out.at_ k (by rw [HRZ.out.2.1]; exact hk3)
              injection hv3 with e1 e2 e3
              clear e2
              subst e1 e3
              have hLx := HLZ.out k hk3
              obtain ⟨Au, cu, hvu, -, -⟩ := hLu.ls.shape
              obtain ⟨Ax, cx, hvx, -, -⟩ := hLx.shape
              obtain ⟨-, -, hll, -⟩ := HRZ.out.2.2 k hk3
              have hcw := (HB13.out.below HBQ.out HB13.out.lt).cell k
              rw [show xz[k]? = some (xz.getD k undef) by have := HXX.out; simp [Array.getD_eq_getD_getElem?, show k < xz.size by omega], hvx] at hcw
              rw [hvx] at hLx
              have hcr := (HBQ.out.cell (p := ⟨g3, o3 + k, none⟩) (cell_lt hcu)).trans hcu
              rw [hvu] at hcr hLu
              have HSM : Hid (∀ W, Below wr.heap.size wr W → Calls Try.prog 47 #[.slice Au (Lz.getD k []).length cu, .slice Ax (Lz.getD k []).length cx] W fun e W' => e = .returned (.bool true) ∧ Below W.heap.size W W') := Lib.hid (fun W hW => same_any (Lz.getD k []) _ _ W ((hLu.ls.keep HBQ.out).keep hW) ((hLx.keep HBQ.out).keep hW) hll)
              obtain ⟨nu, hnu⟩ : ∃ nu, nu = (Lz.getD k []).length := ⟨_, rfl⟩
              rw [← hnu] at hcw hcr HSM
              have hk0i : (0 : Int) ≤ (k : Int) := by omega
              have hk3i : (k : Int) < 3 := by omega
              have hblq : bW < wr.heap.size := Nat.lt_of_lt_of_le HB13.out.lt HBQ.out.size
              have hglq : g3 < wr.heap.size := Nat.lt_of_lt_of_le (cell_lt hcu) HBQ.out.size
              clear hvu hvx hLu hLx hll hnu hcu
              go_wp2_with fail
              refine wp_region_pre 7 1 (by kernel_rfl) (by kernel_rfl) rfl ?_
              simp only [List.take_succ_cons, List.take_zero, List.drop_succ_cons, List.drop_zero]
              repeat (go_big_quiet_step (fail))
              refine wpQuiet_nil ?_
              intro wd hbd
              have HBD := Lib.hid hbd
              clear hbd hcw hcr
              go_wp2_with (first
                | (go_at_call 47
                   refine (HSM.out _ HBD.out).mono ?_
                   rintro e we ⟨rfl, hbe⟩
                   have HBE := Lib.hid hbe
                   clear hbe)
                | fail)
              go_roundw
              case rel => exact ⟨k + 1, by omega, by go_num, HBQ.out.trans ((HBD.out.trans (HBE.out.mono HBD.out.size)).mono HBQ.out.size)⟩
              case measure => simp [intOf]; omega
            · have hd : decide ((k : Int) < 3) = false := decide_eq_false (by omega)
              go_wp2_with fail
              go_ret
              exact ⟨rfl, HW13.out.trans (HBQ.out.mono HW13.out.size)⟩
        · have hd1 : decide ((i : Int) < (len1 : Int)) = false := decide_eq_false (by omega)
          go_wp2_with (first
            | (go_at_call 58
               refine HC.out.mono ?_
               rintro e w10 ⟨rfl, vs2, l2, L2, hD10, hR10, hF10, hS10, hL10⟩
               obtain ⟨hb10, hn10⟩ := blk_step HB9.out HNB.out hF10 hS10
               have hcw := hb10.cell r
               have hfz := hb10.frozen r
               rw [show xs[r]? = some (xs.getD r undef) by have := HXZ.out; simp [Array.getD_eq_getD_getElem?, show r < xs.size by omega]] at hcw
               have HD10 := Lib.hid hD10
               have HR10 := Lib.hid hR10
               have HF10 := Lib.hid hF10
               have HS10 := Lib.hid hS10
               have HL10 := Lib.hid hL10
               have HB10 := Lib.hid hb10
               have HN10 := Lib.hid hn10
               have hbl10 := hb10.lt
               clear hD10 hR10 hF10 hS10 hL10 hb10 hn10)
            | fail)
          have hFF : Fr (fun k => dfoot d g 3 vs1 k ∨ k = bW) wr w10 := HF10.out.mono (fun k _ hk => .inl hk)
          have hSS : ∀ k, (dfoot d g 3 vs2 k ∨ k = bW) → (dfoot d g 3 vs1 k ∨ k = bW) ∨ wr.heap.size ≤ k := fun k hk => by
            rcases hk with hk | hk
            · exact (HS10.out k hk).imp .inl id
            · exact .inl (.inr hk)
          have hFS : Fr (fun k => dfoot d g 3 vs2 k ∨ k = bW) w10 (w10.setCell ⟨bW, r, none⟩ (.slice A9 nl c9)) := (Fr.refl _ w10).setCell' (.inl (.inr rfl)) _
          have hFO : Fr (one bW) w10 (w10.setCell ⟨bW, r, none⟩ (.slice A9 nl c9)) := (Fr.refl (one bW) w10).setCell' (.inl rfl) _
          have hfin : ∃ vs2 l2 L2 xz, Dk w1 (w10.setCell ⟨bW, r, none⟩ (.slice A9 nl c9)) d g 3 vs2 l2 false ∧ Rooms 3 l2 L2 ∧ Blk (w10.setCell ⟨bW, r, none⟩ (.slice A9 nl c9)) bW 75 xz ∧ ¬ dfoot d g 3 vs2 bW ∧ xz.size = 3 ∧ ∀ k, k < 3 → LsF (fun k => dfoot d g 3 vs2 k ∨ k = bW) (w10.setCell ⟨bW, r, none⟩ (.slice A9 nl c9)) (xz.getD k undef) (L2.getD k []) := by
            refine ⟨vs2, l2, L2, _, HD10.out.frS hFO (fun k hk => by unfold one at hk; subst hk; exact HN10.out) (fun k hk => by unfold one at hk; subst hk; exact HWB1.out), HR10.out, HB10.out.set_ r _, HN10.out, by simp [HXZ.out], fun k hk => ?_⟩
            have hq : L2 = L1.set r lo := by simpa using HL10.out
            have hLn := HRM.out.2.1
            by_cases e : k = r
            · subst e
              rw [hq, show (L1.set k lo).getD k [] = lo by simp [List.getD_eq_getElem?_getD, show k < L1.length by omega], show (xs.setIfInBounds k (.slice A9 nl c9)).getD k undef = .slice A9 nl c9 by have := HXZ.out; simp [Array.getD_eq_getD_getElem?, show k < xs.size by omega]]
              exact (HLF.out.step hFF hSS).fr hFS
            · rw [hq, show (L1.set r lo).getD k [] = L1.getD k [] by simp only [List.getD_eq_getElem?_getD]; rw [List.getElem?_set_ne (fun h => e h.symm)], show (xs.setIfInBounds r (.slice A9 nl c9)).getD k undef = xs.getD k undef by simp only [Array.getD_eq_getD_getElem?]; rw [Array.getElem?_setIfInBounds_ne (fun h => e h.symm)]]
              exact ((HL9.out k hk).step hFF hSS).fr hFS
          clear hFF hSS hFS hFO
          obtain ⟨vsz, lz, Lz, xz, hDz, hRz, hBz, hNz, hxz, hLz⟩ := hfin
          have HRZ := Lib.hid hRz
          have HXX := Lib.hid hxz
          refine (part_none hDz (by omega) hRz).mono ?_
          rintro e w12 ⟨rfl, vs3, hD12, hF12, hS12⟩
          obtain ⟨hb12, hn12⟩ := blk_step hBz hNz hF12 hS12
          have hL12 : ∀ k, k < 3 → LsF (fun k => dfoot d g 3 vs3 k ∨ k = bW) w12 (xz.getD k undef) (Lz.getD k []) := fun k hk => (hLz k hk).step (hF12.mono (fun k _ hk => .inl hk)) (fun k hk => hk.elim (fun h => (hS12 k h).imp .inl id) (fun h => .inl (.inr h)))
          have HD12 := Lib.hid hD12
          have HB12 := Lib.hid hb12
          have HN12 := Lib.hid hn12
          have HL12 := Lib.hid hL12
          clear hDz hRz hBz hNz hxz hLz hD12 hF12 hS12 hb12 hn12 hL12
          go_wp2_with (first
            | (go_at_call 56
               refine (broken_any HD12.out).mono ?_
               rintro e w13 ⟨rfl, rfl⟩)
            | (go_at_call 57
               refine (up_rooms HD12.out (by omega) HRZ.out).mono ?_
               rintro e w13 ⟨A13, c13, rfl, hL13, vs4, hD13, hF13, hS13⟩
               obtain ⟨hb13, hn13⟩ := blk_step HB12.out HN12.out hF13 hS13
               have hLZ13 : ∀ k, k < 3 → Ls w13 (xz.getD k undef) (Lz.getD k []) := fun k hk => ((HL12.out k hk).step (hF13.mono (fun k _ hk => .inl hk)) (fun k hk => hk.elim (fun h => (hS13 k h).imp .inl id) (fun h => .inl (.inr h)) : ∀ k, (dfoot d g 3 vs4 k ∨ k = bW) → (dfoot d g 3 vs3 k ∨ k = bW) ∨ w12.heap.size ≤ k)).ls
               have HL13 := Lib.hid hL13
               have HB13 := Lib.hid hb13
               have HLZ := Lib.hid hLZ13
               have HW13 := Lib.hid (HB1.out.trans (hD13.bel.mono HB1.out.size))
               clear hL13 hD13 hF13 hS13 hb13 hn13 hLZ13)
            | fail)
          go_loopw [14] (fun c14 wq => ∃ k : Nat, k ≤ 3 ∧ c14 = .int .i64 (k : Int) ∧ Below w13.heap.size w13 wq) (fun c14 _ => 3 - (intOf c14).toNat)
          case atStart => exact ⟨0, by omega, rfl, Below.refl _ _⟩
          case round =>
            obtain ⟨k, hk, rfl, hBq⟩ := hrel
            have HBQ := Lib.hid hBq
            clear hBq
            by_cases hk3 : k < 3
            · have hd : decide ((k : Int) < 3) = true := decide_eq_true (by omega)
              obtain ⟨g3, o3, c3, u, hv3, hcu, hLu⟩ := HL13.out.at_ k (by rw [HRZ.out.2.1]; exact hk3)
              injection hv3 with e1 e2 e3
              clear e2
              subst e1 e3
              have hLx := HLZ.out k hk3
              obtain ⟨Au, cu, hvu, -, -⟩ := hLu.ls.shape
              obtain ⟨Ax, cx, hvx, -, -⟩ := hLx.shape
              obtain ⟨-, -, hll, -⟩ := HRZ.out.2.2 k hk3
              have hcw := (HB13.out.below HBQ.out HB13.out.lt).cell k
              rw [show xz[k]? = some (xz.getD k undef) by have := HXX.out; simp [Array.getD_eq_getD_getElem?, show k < xz.size by omega], hvx] at hcw
              rw [hvx] at hLx
              have hcr := (HBQ.out.cell (p := ⟨g3, o3 + k, none⟩) (cell_lt hcu)).trans hcu
              rw [hvu] at hcr hLu
              have HSM : Hid (∀ W, Below wr.heap.size wr W → Calls Try.prog 47 #[.slice Au (Lz.getD k []).length cu, .slice Ax (Lz.getD k []).length cx] W fun e W' => e = .returned (.bool true) ∧ Below W.heap.size W W') := Lib.hid (fun W hW => same_any (Lz.getD k []) _ _ W ((hLu.ls.keep HBQ.out).keep hW) ((hLx.keep HBQ.out).keep hW) hll)
              obtain ⟨nu, hnu⟩ : ∃ nu, nu = (Lz.getD k []).length := ⟨_, rfl⟩
              rw [← hnu] at hcw hcr HSM
              have hk0i : (0 : Int) ≤ (k : Int) := by omega
              have hk3i : (k : Int) < 3 := by omega
              have hblq : bW < wr.heap.size := Nat.lt_of_lt_of_le HB13.out.lt HBQ.out.size
              have hglq : g3 < wr.heap.size := Nat.lt_of_lt_of_le (cell_lt hcu) HBQ.out.size
              clear hvu hvx hLu hLx hll hnu hcu
              go_wp2_with fail
              refine wp_region_pre 7 1 (by kernel_rfl) (by kernel_rfl) rfl ?_
              simp only [List.take_succ_cons, List.take_zero, List.drop_succ_cons, List.drop_zero]
              repeat (go_big_quiet_step (fail))
              refine wpQuiet_nil ?_
              intro wd hbd
              have HBD := Lib.hid hbd
              clear hbd hcw hcr
              go_wp2_with (first
                | (go_at_call 47
                   refine (HSM.out _ HBD.out).mono ?_
                   rintro e we ⟨rfl, hbe⟩
                   have HBE := Lib.hid hbe
                   clear hbe)
                | fail)
              go_roundw
              case rel => exact ⟨k + 1, by omega, by go_num, HBQ.out.trans ((HBD.out.trans (HBE.out.mono HBD.out.size)).mono HBQ.out.size)⟩
              case measure => simp [intOf]; omega
            · have hd : decide ((k : Int) < 3) = false := decide_eq_false (by omega)
              go_wp2_with fail
              go_ret
              exact ⟨rfl, HW13.out.trans (HBQ.out.mono HW13.out.size)⟩
      · have hne : ((cd : Int) == 0) = false := by rw [beq_eq_false_iff_ne]; exact hz
        rcases hw with ⟨hl1, hl2⟩ | hl1
        · have hd1 : decide ((i : Int) < (len1 : Int)) = true := decide_eq_true (by omega)
          have hd2 : decide ((i : Int) < 10) = false := decide_eq_false (by omega)
          go_wp2_with (first
            | (go_at_call 58
               refine HC.out.mono ?_
               rintro e w10 ⟨rfl, vs2, l2, L2, hD10, hR10, hF10, hS10, hL10⟩
               obtain ⟨hb10, hn10⟩ := blk_step HB9.out HNB.out hF10 hS10
               have hcw := hb10.cell r
               have hfz := hb10.frozen r
               rw [show xs[r]? = some (xs.getD r undef) by have := HXZ.out; simp [Array.getD_eq_getD_getElem?, show r < xs.size by omega]] at hcw
               have HD10 := Lib.hid hD10
               have HR10 := Lib.hid hR10
               have HF10 := Lib.hid hF10
               have HS10 := Lib.hid hS10
               have HL10 := Lib.hid hL10
               have HB10 := Lib.hid hb10
               have HN10 := Lib.hid hn10
               have hbl10 := hb10.lt
               clear hD10 hR10 hF10 hS10 hL10 hb10 hn10)
            | fail)
          have hFF : Fr (fun k => dfoot d g 3 vs1 k ∨ k = bW) wr w10 := HF10.out.mono (fun k _ hk => .inl hk)
          have hSS : ∀ k, (dfoot d g 3 vs2 k ∨ k = bW) → (dfoot d g 3 vs1 k ∨ k = bW) ∨ wr.heap.size ≤ k := fun k hk => by
            rcases hk with hk | hk
            · exact (HS10.out k hk).imp .inl id
            · exact .inl (.inr hk)
          have hfin : ∃ vs2 l2 L2 xz, Dk w1 w10 d g 3 vs2 l2 false ∧ Rooms 3 l2 L2 ∧ Blk w10 bW 75 xz ∧ ¬ dfoot d g 3 vs2 bW ∧ xz.size = 3 ∧ ∀ k, k < 3 → LsF (fun k => dfoot d g 3 vs2 k ∨ k = bW) w10 (xz.getD k undef) (L2.getD k []) := by
            refine ⟨vs2, l2, L2, xs, HD10.out, HR10.out, HB10.out, HN10.out, HXZ.out, fun k hk => ?_⟩
            rw [show L2 = L1 by rw [HL10.out, if_neg hz]]
            exact (HL9.out k hk).step hFF hSS
          clear hFF hSS
          obtain ⟨vsz, lz, Lz, xz, hDz, hRz, hBz, hNz, hxz, hLz⟩ := hfin
          have HRZ := Lib.hid hRz
          have HXX := Lib.hid hxz
          refine (part_none hDz (by omega) hRz).mono ?_
          rintro e w12 ⟨rfl, vs3, hD12, hF12, hS12⟩
          obtain ⟨hb12, hn12⟩ := blk_step hBz hNz hF12 hS12
          have hL12 : ∀ k, k < 3 → LsF (fun k => dfoot d g 3 vs3 k ∨ k = bW) w12 (xz.getD k undef) (Lz.getD k []) := fun k hk => (hLz k hk).step (hF12.mono (fun k _ hk => .inl hk)) (fun k hk => hk.elim (fun h => (hS12 k h).imp .inl id) (fun h => .inl (.inr h)))
          have HD12 := Lib.hid hD12
          have HB12 := Lib.hid hb12
          have HN12 := Lib.hid hn12
          have HL12 := Lib.hid hL12
          clear hDz hRz hBz hNz hxz hLz hD12 hF12 hS12 hb12 hn12 hL12
          go_wp2_with (first
            | (go_at_call 56
               refine (broken_any HD12.out).mono ?_
               rintro e w13 ⟨rfl, rfl⟩)
            | (go_at_call 57
               refine (up_rooms HD12.out (by omega) HRZ.out).mono ?_
               rintro e w13 ⟨A13, c13, rfl, hL13, vs4, hD13, hF13, hS13⟩
               obtain ⟨hb13, hn13⟩ := blk_step HB12.out HN12.out hF13 hS13
               have hLZ13 : ∀ k, k < 3 → Ls w13 (xz.getD k undef) (Lz.getD k []) := fun k hk => ((HL12.out k hk).step (hF13.mono (fun k _ hk => .inl hk)) (fun k hk => hk.elim (fun h => (hS13 k h).imp .inl id) (fun h => .inl (.inr h)) : ∀ k, (dfoot d g 3 vs4 k ∨ k = bW) → (dfoot d g 3 vs3 k ∨ k = bW) ∨ w12.heap.size ≤ k)).ls
               have HL13 := Lib.hid hL13
               have HB13 := Lib.hid hb13
               have HLZ := Lib.hid hLZ13
               have HW13 := Lib.hid (HB1.out.trans (hD13.bel.mono HB1.out.size))
               clear hL13 hD13 hF13 hS13 hb13 hn13 hLZ13)
            | fail)
          go_loopw [14] (fun c14 wq => ∃ k : Nat, k ≤ 3 ∧ c14 = .int .i64 (k : Int) ∧ Below w13.heap.size w13 wq) (fun c14 _ => 3 - (intOf c14).toNat)
          case atStart => exact ⟨0, by omega, rfl, Below.refl _ _⟩
          case round =>
            obtain ⟨k, hk, rfl, hBq⟩ := hrel
            have HBQ := Lib.hid hBq
            clear hBq
            by_cases hk3 : k < 3
            · have hd : decide ((k : Int) < 3) = true := decide_eq_true (by omega)
              obtain ⟨g3, o3, c3, u, hv3, hcu, hLu⟩ := HL13.out.at_ k (by rw [HRZ.out.2.1]; exact hk3)
              injection hv3 with e1 e2 e3
              clear e2
              subst e1 e3
              have hLx := HLZ.out k hk3
              obtain ⟨Au, cu, hvu, -, -⟩ := hLu.ls.shape
              obtain ⟨Ax, cx, hvx, -, -⟩ := hLx.shape
              obtain ⟨-, -, hll, -⟩ := HRZ.out.2.2 k hk3
              have hcw := (HB13.out.below HBQ.out HB13.out.lt).cell k
              rw [show xz[k]? = some (xz.getD k undef) by have := HXX.out; simp [Array.getD_eq_getD_getElem?, show k < xz.size by omega], hvx] at hcw
              rw [hvx] at hLx
              have hcr := (HBQ.out.cell (p := ⟨g3, o3 + k, none⟩) (cell_lt hcu)).trans hcu
              rw [hvu] at hcr hLu
              have HSM : Hid (∀ W, Below wr.heap.size wr W → Calls Try.prog 47 #[.slice Au (Lz.getD k []).length cu, .slice Ax (Lz.getD k []).length cx] W fun e W' => e = .returned (.bool true) ∧ Below W.heap.size W W') := Lib.hid (fun W hW => same_any (Lz.getD k []) _ _ W ((hLu.ls.keep HBQ.out).keep hW) ((hLx.keep HBQ.out).keep hW) hll)
              obtain ⟨nu, hnu⟩ : ∃ nu, nu = (Lz.getD k []).length := ⟨_, rfl⟩
              rw [← hnu] at hcw hcr HSM
              have hk0i : (0 : Int) ≤ (k : Int) := by omega
              have hk3i : (k : Int) < 3 := by omega
              have hblq : bW < wr.heap.size := Nat.lt_of_lt_of_le HB13.out.lt HBQ.out.size
              have hglq : g3 < wr.heap.size := Nat.lt_of_lt_of_le (cell_lt hcu) HBQ.out.size
              clear hvu hvx hLu hLx hll hnu hcu
              go_wp2_with fail
              refine wp_region_pre 7 1 (by kernel_rfl) (by kernel_rfl) rfl ?_
              simp only [List.take_succ_cons, List.take_zero, List.drop_succ_cons, List.drop_zero]
              repeat (go_big_quiet_step (fail))
              refine wpQuiet_nil ?_
              intro wd hbd
              have HBD := Lib.hid hbd
              clear hbd hcw hcr
              go_wp2_with (first
                | (go_at_call 47
                   refine (HSM.out _ HBD.out).mono ?_
                   rintro e we ⟨rfl, hbe⟩
                   have HBE := Lib.hid hbe
                   clear hbe)
                | fail)
              go_roundw
              case rel => exact ⟨k + 1, by omega, by go_num, HBQ.out.trans ((HBD.out.trans (HBE.out.mono HBD.out.size)).mono HBQ.out.size)⟩
              case measure => simp [intOf]; omega
            · have hd : decide ((k : Int) < 3) = false := decide_eq_false (by omega)
              go_wp2_with fail
              go_ret
              exact ⟨rfl, HW13.out.trans (HBQ.out.mono HW13.out.size)⟩
        · have hd1 : decide ((i : Int) < (len1 : Int)) = false := decide_eq_false (by omega)
          go_wp2_with (first
            | (go_at_call 58
               refine HC.out.mono ?_
               rintro e w10 ⟨rfl, vs2, l2, L2, hD10, hR10, hF10, hS10, hL10⟩
               obtain ⟨hb10, hn10⟩ := blk_step HB9.out HNB.out hF10 hS10
               have hcw := hb10.cell r
               have hfz := hb10.frozen r
               rw [show xs[r]? = some (xs.getD r undef) by have := HXZ.out; simp [Array.getD_eq_getD_getElem?, show r < xs.size by omega]] at hcw
               have HD10 := Lib.hid hD10
               have HR10 := Lib.hid hR10
               have HF10 := Lib.hid hF10
               have HS10 := Lib.hid hS10
               have HL10 := Lib.hid hL10
               have HB10 := Lib.hid hb10
               have HN10 := Lib.hid hn10
               have hbl10 := hb10.lt
               clear hD10 hR10 hF10 hS10 hL10 hb10 hn10)
            | fail)
          have hFF : Fr (fun k => dfoot d g 3 vs1 k ∨ k = bW) wr w10 := HF10.out.mono (fun k _ hk => .inl hk)
          have hSS : ∀ k, (dfoot d g 3 vs2 k ∨ k = bW) → (dfoot d g 3 vs1 k ∨ k = bW) ∨ wr.heap.size ≤ k := fun k hk => by
            rcases hk with hk | hk
            · exact (HS10.out k hk).imp .inl id
            · exact .inl (.inr hk)
          have hfin : ∃ vs2 l2 L2 xz, Dk w1 w10 d g 3 vs2 l2 false ∧ Rooms 3 l2 L2 ∧ Blk w10 bW 75 xz ∧ ¬ dfoot d g 3 vs2 bW ∧ xz.size = 3 ∧ ∀ k, k < 3 → LsF (fun k => dfoot d g 3 vs2 k ∨ k = bW) w10 (xz.getD k undef) (L2.getD k []) := by
            refine ⟨vs2, l2, L2, xs, HD10.out, HR10.out, HB10.out, HN10.out, HXZ.out, fun k hk => ?_⟩
            rw [show L2 = L1 by rw [HL10.out, if_neg hz]]
            exact (HL9.out k hk).step hFF hSS
          clear hFF hSS
          obtain ⟨vsz, lz, Lz, xz, hDz, hRz, hBz, hNz, hxz, hLz⟩ := hfin
          have HRZ := Lib.hid hRz
          have HXX := Lib.hid hxz
          refine (part_none hDz (by omega) hRz).mono ?_
          rintro e w12 ⟨rfl, vs3, hD12, hF12, hS12⟩
          obtain ⟨hb12, hn12⟩ := blk_step hBz hNz hF12 hS12
          have hL12 : ∀ k, k < 3 → LsF (fun k => dfoot d g 3 vs3 k ∨ k = bW) w12 (xz.getD k undef) (Lz.getD k []) := fun k hk => (hLz k hk).step (hF12.mono (fun k _ hk => .inl hk)) (fun k hk => hk.elim (fun h => (hS12 k h).imp .inl id) (fun h => .inl (.inr h)))
          have HD12 := Lib.hid hD12
          have HB12 := Lib.hid hb12
          have HN12 := Lib.hid hn12
          have HL12 := Lib.hid hL12
          clear hDz hRz hBz hNz hxz hLz hD12 hF12 hS12 hb12 hn12 hL12
          go_wp2_with (first
            | (go_at_call 56
               refine (broken_any HD12.out).mono ?_
               rintro e w13 ⟨rfl, rfl⟩)
            | (go_at_call 57
               refine (up_rooms HD12.out (by omega) HRZ.out).mono ?_
               rintro e w13 ⟨A13, c13, rfl, hL13, vs4, hD13, hF13, hS13⟩
               obtain ⟨hb13, hn13⟩ := blk_step HB12.out HN12.out hF13 hS13
               have hLZ13 : ∀ k, k < 3 → Ls w13 (xz.getD k undef) (Lz.getD k []) := fun k hk => ((HL12.out k hk).step (hF13.mono (fun k _ hk => .inl hk)) (fun k hk => hk.elim (fun h => (hS13 k h).imp .inl id) (fun h => .inl (.inr h)) : ∀ k, (dfoot d g 3 vs4 k ∨ k = bW) → (dfoot d g 3 vs3 k ∨ k = bW) ∨ w12.heap.size ≤ k)).ls
               have HL13 := Lib.hid hL13
               have HB13 := Lib.hid hb13
               have HLZ := Lib.hid hLZ13
               have HW13 := Lib.hid (HB1.out.trans (hD13.bel.mono HB1.out.size))
               clear hL13 hD13 hF13 hS13 hb13 hn13 hLZ13)
            | fail)
          go_loopw [14] (fun c14 wq => ∃ k : Nat, k ≤ 3 ∧ c14 = .int .i64 (k : Int) ∧ Below w13.heap.size w13 wq) (fun c14 _ => 3 - (intOf c14).toNat)
          case atStart => exact ⟨0, by omega, rfl, Below.refl _ _⟩
          case round =>
            obtain ⟨k, hk, rfl, hBq⟩ := hrel
            have HBQ := Lib.hid hBq
            clear hBq
            by_cases hk3 : k < 3
            · have hd : decide ((k : Int) < 3) = true := decide_eq_true (by omega)
              obtain ⟨g3, o3, c3, u, hv3, hcu, hLu⟩ := HL13.out.at_ k (by rw [HRZ.out.2.1]; exact hk3)
              injection hv3 with e1 e2 e3
              clear e2
              subst e1 e3
              have hLx := HLZ.out k hk3
              obtain ⟨Au, cu, hvu, -, -⟩ := hLu.ls.shape
              obtain ⟨Ax, cx, hvx, -, -⟩ := hLx.shape
              obtain ⟨-, -, hll, -⟩ := HRZ.out.2.2 k hk3
              have hcw := (HB13.out.below HBQ.out HB13.out.lt).cell k
              rw [show xz[k]? = some (xz.getD k undef) by have := HXX.out; simp [Array.getD_eq_getD_getElem?, show k < xz.size by omega], hvx] at hcw
              rw [hvx] at hLx
              have hcr := (HBQ.out.cell (p := ⟨g3, o3 + k, none⟩) (cell_lt hcu)).trans hcu
              rw [hvu] at hcr hLu
              have HSM : Hid (∀ W, Below wr.heap.size wr W → Calls Try.prog 47 #[.slice Au (Lz.getD k []).length cu, .slice Ax (Lz.getD k []).length cx] W fun e W' => e = .returned (.bool true) ∧ Below W.heap.size W W') := Lib.hid (fun W hW => same_any (Lz.getD k []) _ _ W ((hLu.ls.keep HBQ.out).keep hW) ((hLx.keep HBQ.out).keep hW) hll)
              obtain ⟨nu, hnu⟩ : ∃ nu, nu = (Lz.getD k []).length := ⟨_, rfl⟩
              rw [← hnu] at hcw hcr HSM
              have hk0i : (0 : Int) ≤ (k : Int) := by omega
              have hk3i : (k : Int) < 3 := by omega
              have hblq : bW < wr.heap.size := Nat.lt_of_lt_of_le HB13.out.lt HBQ.out.size
              have hglq : g3 < wr.heap.size := Nat.lt_of_lt_of_le (cell_lt hcu) HBQ.out.size
              clear hvu hvx hLu hLx hll hnu hcu
              go_wp2_with fail
              refine wp_region_pre 7 1 (by kernel_rfl) (by kernel_rfl) rfl ?_
              simp only [List.take_succ_cons, List.take_zero, List.drop_succ_cons, List.drop_zero]
              repeat (go_big_quiet_step (fail))
              refine wpQuiet_nil ?_
              intro wd hbd
              have HBD := Lib.hid hbd
              clear hbd hcw hcr
              go_wp2_with (first
                | (go_at_call 47
                   refine (HSM.out _ HBD.out).mono ?_
                   rintro e we ⟨rfl, hbe⟩
                   have HBE := Lib.hid hbe
                   clear hbe)
                | fail)
              go_roundw
              case rel => exact ⟨k + 1, by omega, by go_num, HBQ.out.trans ((HBD.out.trans (HBE.out.mono HBD.out.size)).mono HBQ.out.size)⟩
              case measure => simp [intOf]; omega
            · have hd : decide ((k : Int) < 3) = false := decide_eq_false (by omega)
              go_wp2_with fail
              go_ret
              exact ⟨rfl, HW13.out.trans (HBQ.out.mono HW13.out.size)⟩
end Go.Proofs.Ytnlkjhhocehhaaa.blockCompacts
