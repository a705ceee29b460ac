/- The law BlockCuts: behind any break each room has what it had, and a beginning of what was being written to it. For every input. -/
import Derived.Test.YtnlkjhhocehhaaaTorn
import Derived.Test.YtnlkjhhocehhaaaNils
namespace Go.Proofs.Ytnlkjhhocehhaaa.blockCuts
open Go Go.RowKit Go.Proofs Go.Proofs.Ytnlkjhhocehhaaa Sha Go.BigFrame
set_option linter.unusedVariables false
theorem alloc68 (W : World) : (Instr.alloc 68 true (.tuple #[])).run Try.prog W = .ok (.pointer (some ⟨W.heap.size, 0, none⟩)) (W.alloc (.cells #[.slice none 0 0, .slice none 0 0, .slice none 0 0, .slice none 0 0] 68)) := by kernel_rfl
theorem build68 (a0 a1 a2 a3 : Option Addr) (n0 n1 n2 n3 c0 c1 c2 c3 : Nat) (W : World) : (Instr.build 68 #[(0, .slice a0 n0 c0), (1, .slice a1 n1 c1), (2, .slice a2 n2 c2), (3, .slice a3 n3 c3)]).run Try.prog W = .ok (.agg #[.slice a0 n0 c0, .slice a1 n1 c1, .slice a2 n2 c2, .slice a3 n3 c3]) W := by kernel_rfl
theorem info68 : (Try.prog.info? 68).map (·.size) = some 4 := by kernel_rfl
abbrev L0 : List (List (List UInt8)) := List.replicate 4 []
theorem L0_get (k : Nat) : L0.getD k [] = [] := by
  simp only [L0, List.getD_eq_getElem?_getD, List.getElem?_replicate]
  split <;> rfl
theorem LsB.take {B : Nat} {w0 w : World} {A : Option Addr} {n c : Nat} {l : List (List UInt8)} (h : LsB B w0 w (.slice A n c) l) (hn : n = l.length) (m : Nat) (hm : m ≤ n) : LsB B w0 w (.slice A m c) (l.take m) := by
  obtain ⟨us, h1, h2, h3, h4⟩ := h
  rw [← hn] at h2
  have hl : (l.take m).length = m := by rw [List.length_take]; omega
  refine ⟨us.take m, by rw [List.length_take, hl]; omega, by rw [hl]; exact Own.takeA h2 m hm, fun g hg => h3 g (by cases A <;> exact hg), fun i hi => ?_⟩
  rw [hl] at hi
  have e1 : (us.take m).getD i undef = us.getD i undef := by simp only [List.getD_eq_getElem?_getD]; rw [List.getElem?_take_of_lt hi]
  have e2 : (l.take m).getD i [] = l.getD i [] := by simp only [List.getD_eq_getElem?_getD]; rw [List.getElem?_take_of_lt hi]
  rw [e1, e2]; exact h4 i (by omega)
theorem LsB.mono {B B' : Nat} {w0 w : World} {v : Value} {l : List (List UInt8)} (h : LsB B w0 w v l) (hB : B' ≤ B) : LsB B' w0 w v l := by
  obtain ⟨us, h1, h2, h3, h4⟩ := h
  exact ⟨us, h1, h2, fun g hg => Nat.le_trans hB (h3 g hg), h4⟩
set_option maxRecDepth 100000 in
set_option maxHeartbeats 8000000 in
theorem walk (A0 : Option Addr) (len0 c0 : Nat) (ls0 : List Wr) (A1 : Option Addr) (len1 c1 : Nat) (ls1 : List Wr) (z0 z1 z2 : Int) (w : World) (hI0 : WsI w A0 len0 c0 ls0) (hI1 : WsI w A1 len1 c1 ls1) :
    Calls Try.prog 16 #[.slice A0 len0 c0, .slice A1 len1 c1, .agg #[.int .i64 z0, .int .i64 z1, .int .i64 z2]] w fun e w' => e = .returned (.bool true) ∧ Below w.heap.size w w' := by
  obtain ⟨i2, hi2, hy0, hy1, hy2⟩ := info_parts info22'
  obtain ⟨r, hr, hr1, hr2⟩ := rem_n 4 (by omega) z0
  have HR1 : IntKind.u64.wrap z0 % 4 = (r : Int) := hr1
  have HR2 : (IntKind.u64.wrap z0).tmod 4 = (r : Int) := hr2
  have HI0 := Lib.hid hI0
  have HI1 := Lib.hid hI1
  have hB0 : Blk (w.alloc (.cells #[.int .i64 z0, .int .i64 z1, .int .i64 z2] 59)) w.heap.size 59 #[.int .i64 z0, .int .i64 z1, .int .i64 z2] := Blk.new _ _ _
  have HB0 := Lib.hid hB0
  have HBA : Hid (Below w.heap.size w (w.alloc (.cells #[.int .i64 z0, .int .i64 z1, .int .i64 z2] 59))) := Lib.hid ((Below.refl _ w).alloc (Nat.le_refl _) _)
  clear hI0 hI1 hr1 hr2 hB0
  obtain ⟨fl0, hfl0⟩ : ∃ fl, fl = fewL ls0 := ⟨_, rfl⟩
  obtain ⟨fl1, hfl1⟩ : ∃ fl, fl = fewL ls1 := ⟨_, rfl⟩
  have HL0 : Hid (fl0.length ≤ 20 ∧ ∀ e ∈ fl0, e.x.length ≤ 10000) := Lib.hid (by rw [hfl0]; exact few_len ls0)
  have HL1 : Hid (fl1.length ≤ 20 ∧ ∀ e ∈ fl1, e.x.length ≤ 10000) := Lib.hid (by rw [hfl1]; exact few_len ls1)
  have HE1 : Hid (∀ e ∈ fl1, Sl w e.u e.x) := Lib.hid (by rw [hfl1]; exact few_each HI1.out)
  have HF0 : Hid (∀ W, Below w.heap.size w W → Calls Try.prog 51 #[.slice A0 len0 c0] W fun e W' => ∃ Aa na ca v2, e = .returned (.tuple #[.slice Aa na ca, v2]) ∧ Hid (na = fl0.length) ∧ Below W.heap.size W W' ∧ (∀ F : Nat → Prop, (∀ k, F k → w.heap.size ≤ k) → (∀ k, F k → k < W.heap.size) → WsA W' F Aa na ca fl0)) := Lib.hid (fun W hW => (few_step HI0.out hW).mono (by
    rintro e W' ⟨Aa, na, ca, A2, c2, h1, h2, h3, h4, -⟩
    rw [← hfl0] at h2 h4
    exact ⟨Aa, na, ca, _, h1, Lib.hid h2, h3, h4⟩))
  have HF1 : Hid (∀ W, Below w.heap.size w W → Calls Try.prog 51 #[.slice A1 len1 c1] W fun e W' => ∃ Aa na ca v2, e = .returned (.tuple #[.slice Aa na ca, v2]) ∧ Hid (na = fl1.length) ∧ Below W.heap.size W W' ∧ (∀ F : Nat → Prop, (∀ k, F k → w.heap.size ≤ k) → (∀ k, F k → k < W.heap.size) → WsA W' F Aa na ca fl1)) := Lib.hid (fun W hW => (few_step HI1.out hW).mono (by
    rintro e W' ⟨Aa, na, ca, A2, c2, h1, h2, h3, h4, -⟩
    rw [← hfl1] at h2 h4
    exact ⟨Aa, na, ca, _, h1, Lib.hid h2, h3, h4⟩))
  have HN : Hid (∀ W, Calls Try.prog 50 #[.int .i64 4] W fun e W' => ∃ d g vs, e = .returned (dP d) ∧ Dk W W' d g 4 vs (emptyD 4) false) := Lib.hid (fun W => (newD_any 4 4 (by decide) W).mono (by
    rintro e W' ⟨h1, h2⟩
    exact ⟨_, _, _, h1, h2⟩))
  obtain ⟨cd0, hcd0⟩ : ∃ cd, cd = mayR false L0 fl0 := ⟨_, rfl⟩
  have HCD0 := Lib.hid hcd0
  obtain ⟨L1, hL1⟩ : ∃ L1, L1 = writeR 4 L0 fl0 false := ⟨_, rfl⟩
  have HL1E := Lib.hid hL1
  have HWR : Hid (∀ (w1 W : World) (d g : Nat) (vs : List Value) (Aa : Option Addr) (na ca : Nat), na = fl0.length → Dk w1 W d g 4 vs (emptyD 4) false → WsA W (dfoot d g 4 vs) Aa na ca fl0 → Calls Try.prog 52 #[dP d, .slice Aa na ca] W fun e W' => e = .returned (.int .i64 cd0) ∧ Next w1 d g 4 vs W L1 false W') := Lib.hid (fun w1 W d g vs Aa na ca hna hD hA => by
    rw [hcd0, hL1]
    exact write_inv hD (by omega) ((Rooms.empty 4).inv false) Aa na ca fl0 hA (by rw [hna]; exact HL0.out.1) HL0.out.2)
  clear hfl0 hfl1 hcd0 hL1
  by_cases hz0 : cd0 = 0
  · subst hz0
    obtain ⟨cd1, hcd1⟩ : ∃ cd, cd = mayR false L1 fl1 := ⟨_, rfl⟩
    obtain ⟨L2, hL2⟩ : ∃ L2, L2 = partR 4 L1 fl1 false (r : Int) z1 z2 := ⟨_, rfl⟩
    have HCD1 := Lib.hid hcd1
    have HL2E := Lib.hid hL2
    have HPT : Hid (∀ (w1 W : World) (d g : Nat) (vs : List Value) (l : List (List UInt8)) (Ab : Option Addr) (nb cb : Nat), nb = fl1.length → Dk w1 W d g 4 vs l false → Inv 4 l L1 false → WsA W (dfoot d g 4 vs) Ab nb cb fl1 → Calls Try.prog 55 #[dP d, .slice Ab nb cb, .int .i64 (r : Int), .int .i64 z1, .int .i64 z2] W fun e W' => e = .returned (.int .i64 cd1) ∧ Next w1 d g 4 vs W L2 (if cd1 = 0 then true else false) W') := Lib.hid (fun w1 W d g vs l Ab nb cb hnb hD hI hA => by
      rw [hcd1, hL2]
      exact part_inv hD (by omega) hI Ab nb cb fl1 hA (by rw [hnb]; exact HL1.out.1) HL1.out.2 _ _ _)
    clear hcd1 hL2
    go_enter Try.func16, Try.ntmps16
    go_wp2_with (first
      | (go_at_call 44
         refine (lives_any _).mono ?_
         rintro e w1 ⟨rfl, hb1⟩
         have HW1 := Lib.hid (HBA.out.trans (hb1.mono HBA.out.size))
         have HBB1 := Lib.hid (HB0.out.below hb1 HB0.out.lt)
         clear hb1)
      | (go_at_call 50
         refine (HN.out _).mono ?_
         rintro e w2 ⟨d, g, vs0, rfl, hD2⟩
         have HD2 := Lib.hid hD2
         have HW2 := Lib.hid (HW1.out.trans (hD2.bel.mono HW1.out.size))
         clear hD2)
      | (go_at_call 51
         refine (HF0.out _ HW2.out).mono ?_
         rintro e w3 ⟨Aa, na, ca, v2, rfl, HNA, hB3, hA3⟩
         have HD3 := Lib.hid (HD2.out.keep hB3)
         have HA3 := Lib.hid (hA3 (dfoot d g 4 vs0) (fun k hk => Nat.le_trans HW1.out.size (HD2.out.foot_ge k hk)) HD2.out.foot_lt)
         clear hB3 hA3 HF0)
      | (go_at_call 52
         refine (HWR.out _ _ _ _ _ _ _ _ HNA.out HD3.out HA3.out).mono ?_
         rintro e w4 ⟨rfl, vs1, l1, hD4, hI4, hF4, hS4⟩
         have HI4 := Lib.hid hI4
         have HD4 := Lib.hid hD4
         have HW4 := Lib.hid (HW1.out.trans (hD4.bel.mono HW1.out.size))
         clear hD4 hI4 hF4 hS4)
      | (go_at_call 51
         refine (HF1.out _ HW4.out).mono ?_
         rintro e w5 ⟨Ab, nb, cb, v3, rfl, HNB, hB5, hA5⟩
         have HD5 := Lib.hid (HD4.out.keep hB5)
         have HA5 := Lib.hid (hA5 (dfoot d g 4 vs1) (fun k hk => Nat.le_trans HW1.out.size (HD4.out.foot_ge k hk)) HD4.out.foot_lt)
         clear hB5 hA5 HF1)
      | (go_at_call 54
         refine (read_inv HD5.out (by omega) HI4.out 0 (by omega)).mono ?_
         rintro e w6 ⟨A6, n6, c6, rfl, hL6, hB6⟩
         have HL6 := Lib.hid hL6
         have HD6 := Lib.hid (HD5.out.keep hB6)
         have HA6 := Lib.hid (HA5.out.fr (Fr.of_below hB6 _))
         clear hL6 hB6 HD5 HA5)
      | (go_at_call 54
         refine (read_inv HD6.out (by omega) HI4.out 1 (by omega)).mono ?_
         rintro e w7 ⟨A7, n7, c7, rfl, hL7, hB7⟩
         have HL7 := Lib.hid hL7
         have HD7 := Lib.hid (HD6.out.keep hB7)
         have HA7 := Lib.hid (HA6.out.fr (Fr.of_below hB7 _))
         have HL67 := Lib.hid (HL6.out.keep hB7)
         clear hL7 hB7 HD6 HA6 HL6)
      | (go_at_call 54
         refine (read_inv HD7.out (by omega) HI4.out 2 (by omega)).mono ?_
         rintro e w8 ⟨A8, n8, c8, rfl, hL8, hB8⟩
         have HL8 := Lib.hid hL8
         have HD8 := Lib.hid (HD7.out.keep hB8)
         have HA8 := Lib.hid (HA7.out.fr (Fr.of_below hB8 _))
         have HL68 := Lib.hid (HL67.out.keep hB8)
         have HL78 := Lib.hid (HL7.out.keep hB8)
         clear hL8 hB8 HD7 HA7 HL67 HL7)
      | (go_at_call 54
         refine (read_inv HD8.out (by omega) HI4.out 3 (by omega)).mono ?_
         rintro e w9 ⟨A9, n9, c9, rfl, hL9, hB9⟩
         have HL9 := Lib.hid hL9
         have HD9 := Lib.hid (HD8.out.keep hB9)
         have HA9 := Lib.hid (HA8.out.fr (Fr.of_below hB9 _))
         have HL69 := Lib.hid (HL68.out.keep hB9)
         have HL79 := Lib.hid (HL78.out.keep hB9)
         have HL89 := Lib.hid (HL8.out.keep hB9)
         clear hL9 hB9 HD8 HA8 HL68 HL78 HL8)
      | simp only [alloc68, build68]
      | (refine wpList_store_blk rfl 68 (.tmp 12) (.tmp 56) rfl w9.heap.size 68 #[.slice none 0 0, .slice none 0 0, .slice none 0 0, .slice none 0 0] #[.slice A6 n6 c6, .slice A7 n7 c7, .slice A8 n8 c8, .slice A9 n9 c9] rfl rfl (Blk.new w9 68 _) rfl info68 (by simp [Value.oneCell']) ?_
         intro wS hbS hfS
         have hB9S : Below w9.heap.size w9 wS := ((Below.refl _ w9).alloc (Nat.le_refl _) (.cells #[.slice none 0 0, .slice none 0 0, .slice none 0 0, .slice none 0 0] 68)).trans (hfS.below (by simp) (fun k hk => by unfold one at hk; omega))
         have HBS := Lib.hid hB9S
         have HDS := Lib.hid (HD9.out.keep hB9S)
         have HBBS := Lib.hid (HBB1.out.below HDS.out.bel HBB1.out.lt)
         have hat0 : wS.cell? ⟨w.heap.size, 0, none⟩ = some (.int .i64 z0) := HBBS.out.cell 0
         have hat1 : wS.cell? ⟨w.heap.size, 1, none⟩ = some (.int .i64 z1) := HBBS.out.cell 1
         have hat2 : wS.cell? ⟨w.heap.size, 2, none⟩ = some (.int .i64 z2) := HBBS.out.cell 2
         simp only [Act.put, List.setIfInBounds_toArray, List.set_cons_zero, List.set_cons_succ]
         clear hB9S hfS)
      | fail)
    clear hat0 hat1 hat2
    obtain ⟨bW, hbW⟩ : ∃ bW, bW = w9.heap.size := ⟨_, rfl⟩
    rw [← hbW] at hbS ⊢
    have hft := HD9.out.foot_lt
    have hNW : ¬ dfoot d g 4 vs1 bW := fun h => by have := hft _ h; omega
    obtain ⟨xs, hxs⟩ : ∃ xs : Array Value, xs = #[.slice A6 n6 c6, .slice A7 n7 c7, .slice A8 n8 c8, .slice A9 n9 c9] := ⟨_, rfl⟩
    rw [← hxs] at hbS
    have HBW := Lib.hid hbS
    have HNW := Lib.hid hNW
    have hLs : ∀ k, k < 4 → LsF (dfoot d g 4 vs1) wS (xs.getD k undef) (L1.getD k []) := fun k hk => by
      rw [hxs]
      rcases k with _ | _ | _ | _ | k
      · exact HL69.out.keep HBS.out
      · exact HL79.out.keep HBS.out
      · exact HL89.out.keep HBS.out
      · exact HL9.out.keep HBS.out
      · omega
    have HLS := Lib.hid hLs
    have HXZ : Hid (xs.size = 4) := Lib.hid (by rw [hxs]; rfl)
    have HAS := Lib.hid (HA9.out.fr (Fr.of_below HBS.out _))
    have HPC := Lib.hid (HPT.out w1 wS d g vs1 l1 Ab nb cb HNB.out HDS.out HI4.out HAS.out)
    clear hbS hbW hft hNW hxs hLs HL69 HL79 HL89 HL9 HD9 HA9 HBS HPT HN HWR HI0 HI1 HA3 HD3 HD2 HW2 HBA HB0 HL0
    refine HPC.out.mono ?_
    rintro e wP ⟨rfl, vs2, l2, hD11, hI11, hF11, hS11⟩
    by_cases hz1 : cd1 = 0
    · subst hz1
      rw [if_pos rfl] at hD11 hI11
      obtain ⟨hbP, hnP⟩ := blk_step HBW.out HNW.out hF11 hS11
      have HBP := Lib.hid hbP
      have HNP := Lib.hid hnP
      have HAP := Lib.hid (HAS.out.step hF11 hS11)
      have HLP : Hid (∀ k, k < 4 → LsF (dfoot d g 4 vs2) wP (xs.getD k undef) (L1.getD k [])) := Lib.hid (fun k hk => (HLS.out k hk).step hF11 hS11)
      have HDP := Lib.hid hD11
      have HIP := Lib.hid hI11
      have HLZ : Hid (∀ k, k < 4 → L2.getD k [] = L1.getD k [] ++ partL (r : Int) z1 z2 (k : Int) (sel (k : Int) fl1)) := Lib.hid (fun k hk => by
        rw [HL2E.out]
        unfold partR
        rw [if_pos (by rw [← HCD1.out]), addL_get _ _ _ _ hk])
      clear hD11 hI11 hF11 hS11 hbP hnP HBW HNW HAS HLS HDS HPC HL2E HCD1 HCD0 HL1E
      go_wp2_with (first
        | (go_at_call 57
           refine (up_inv HDP.out (by omega) HIP.out).mono ?_
           rintro e wU ⟨AU, cU, rfl, hLU, vs3, l3, hDU, hIU, hFU, hSU⟩
           obtain ⟨hbU, hnU⟩ := blk_step HBP.out HNP.out hFU (fun k hk => .inl (hSU k hk))
           have HBU := Lib.hid hbU
           have HNU := Lib.hid hnU
           have HAU := Lib.hid (HAP.out.step hFU (fun k hk => .inl (hSU k hk)))
           have HLU : Hid (∀ k, k < 4 → LsF (dfoot d g 4 vs3) wU (xs.getD k undef) (L1.getD k [])) := Lib.hid (fun k hk => (HLP.out k hk).step hFU (fun k hk => .inl (hSU k hk)))
           have HUU := Lib.hid hLU
           have HSU : Hid (∀ k, dfoot d g 4 vs3 k → ¬ newer wP k) := Lib.hid (fun k hk hk2 => by have := HDP.out.foot_lt k (hSU k hk); unfold newer at hk2; omega)
           have HDU := Lib.hid hDU
           have HIU := Lib.hid hIU
           clear hLU hDU hIU hFU hSU hbU hnU HBP HNP HAP HLP HDP HIP)
        | (go_at_call 57
           refine (up_inv HDU.out (by omega) HIU.out).mono ?_
           rintro e wV ⟨AV, cV, rfl, hLV, vs4, l4, hDV, hIV, hFV, hSV⟩
           obtain ⟨hbV, hnV⟩ := blk_step HBU.out HNU.out hFV (fun k hk => .inl (hSV k hk))
           have HBV := Lib.hid hbV
           have HAV := Lib.hid (HAU.out.step hFV (fun k hk => .inl (hSV k hk)))
           have HLV : Hid (∀ k, k < 4 → LsF (dfoot d g 4 vs4) wV (xs.getD k undef) (L1.getD k [])) := Lib.hid (fun k hk => (HLU.out k hk).step hFV (fun k hk => .inl (hSV k hk)))
           have HUV := Lib.hid (HUU.out.fr hFV HSU.out)
           have HVV := Lib.hid hLV
           have HDV := Lib.hid hDV
           have HIV := Lib.hid hIV
           clear hLV hDV hIV hFV hSV hbV hnV HBU HNU HAU HLU HDU HIU HUU HSU)
        | fail)
      have HWV := Lib.hid (HW1.out.trans (HDV.out.bel.mono HW1.out.size))
      have HBBV := Lib.hid (HBB1.out.below HDV.out.bel HBB1.out.lt)
      have HIU2 : Hid (∀ k, k < 4 → (L2.getD k []).length ≤ 1000000) := Lib.hid (fun k hk => (HIV.out.1.2.2 k hk).2.2.1)
      clear HBB1 HBBS
      have hnb20 : nb ≤ 20 := by rw [HNB.out]; exact HL1.out.1
      go_loopw [16, 17, 18] (fun c16 _ _ wr => ∃ k : Nat, k ≤ 4 ∧ c16 = .int .i64 (k : Int) ∧ Below wV.heap.size wV wr) (fun c16 _ _ _ => 4 - (intOf c16).toNat)
      case atStart => exact ⟨0, by omega, rfl, Below.refl _ _⟩
      case round =>
        obtain ⟨k, hk, rfl, hBq⟩ := hrel
        have HBQ := Lib.hid hBq
        clear hBq
        obtain ⟨wo, rfl⟩ : ∃ wo : World, wo = wr := ⟨_, rfl⟩
        by_cases hk4 : k < 4
        · have hd : decide ((k : Int) < 4) = true := decide_eq_true (by omega)
          go_wp2_with fail
          go_loopw [17, 18] (fun c17 c18 wi => ∃ i : Nat, i ≤ nb ∧ c18 = .int .i64 (i : Int) ∧ LsB wo.heap.size w wi c17 (sel (k : Int) (fl1.take i)) ∧ Below wo.heap.size wo wi) (fun _ c18 _ => nb - (intOf c18).toNat)
          case atStart => exact ⟨0, by omega, rfl, LsB.nil _ _ _, Below.refl _ _⟩
          case round =>
            obtain ⟨i, hi, rfl, hA, hB⟩ := hrel
            have HA := Lib.hid hA
            have HBI := Lib.hid hB
            clear hA hB
            by_cases hin : i < nb
            · have hdi : decide ((i : Int) < (nb : Int)) = true := decide_eq_true (by omega)
              have hil : i < fl1.length := by rw [← HNB.out]; exact hin
              obtain ⟨e, he⟩ : ∃ e, e = fl1.getD i default := ⟨_, rfl⟩
              have hem : e ∈ fl1 := by rw [he, show fl1.getD i default = fl1[i] by simp [hil]]; exact List.getElem_mem hil
              have HE := Lib.hid (HE1.out e hem)
              obtain ⟨g1, o1, hAb, hg1, hr1⟩ := HAV.out.row.at_ i hin
              subst hAb
              rw [← he] at hr1
              have hbw : Below wV.heap.size wV wr := HBQ.out.trans (HBI.out.mono HBQ.out.size)
              have hr2 := rangeAt_below hr1 hbw hg1
              have hc0 : wr.cell? ⟨g1, o1 + i * 2, none⟩ = some (.int .i64 e.room) := hr2 0 _ rfl
              have hc1 : wr.cell? ⟨g1, o1 + i * 2 + 1, none⟩ = some e.u := hr2 1 _ rfl
              have hg1r : g1 < wr.heap.size := Nat.lt_of_lt_of_le hg1 hbw.size
              have htk : fl1.take (i + 1) = fl1.take i ++ [e] := by rw [List.take_succ_eq_append_getElem hil, he]; simp [hil]
              have hsn : sel (k : Int) (fl1.take (i + 1)) = if e.room = (k : Int) then sel (k : Int) (fl1.take i) ++ [e.x] else sel (k : Int) (fl1.take i) := by
                rw [htk, sel_append, sel_cons, sel_nil]; split <;> simp
              have hsl20 : (sel (k : Int) (fl1.take i)).length ≤ 20 := by have := sel_len (k : Int) (fl1.take i); rw [List.length_take] at this; have := HL1.out.1; omega
              have h0i : (0 : Int) ≤ (i : Int) := by omega
              have hii : (i : Int) < (nb : Int) := by omega
              obtain ⟨rm, PA, pc, x⟩ := e
              unfold Wr.u at hc1
              simp only at hc0 hc1 hsn
              obtain ⟨q, hq⟩ : ∃ q, q = x.length := ⟨_, rfl⟩
              rw [← hq] at hc1
              have HQ := Lib.hid hq
              by_cases hek : rm = (k : Int)
              · rw [if_pos hek] at hsn
                subst hek
                have HSN := Lib.hid hsn
                obtain ⟨us, hu1, hu2, hu3, hu4⟩ := HA.out
                obtain ⟨sl, hsl⟩ : ∃ s, s = (sel (k : Int) (fl1.take i)).length := ⟨_, rfl⟩
                rw [← hsl] at hu1 hu2 hsl20
                have HSL := Lib.hid hsl
                have HU1 := Lib.hid hu1
                have HU2 := Lib.hid hu2
                have HU3 := Lib.hid hu3
                have HU4 := Lib.hid hu4
                clear hsn hsl hu1 hu2 hu3 hu4 htk hr1 hr2 hbw he hem hil hq
                go_wp2_with (first
                  | (refine wpList_append_o _ rfl (.tmp 95) (.tmp 101) 48 rfl 22 i2 (.slice none 0 0) 1 24 Try.underlying48 hi2 hy0 hy1 hy2 (by rfl) (by omega) u17 sl us (by rfl) (Own.fr HU2.out ((Fr.refl nob wr).alloc _) (fun _ h => h.elim)) (some ⟨wr.heap.size, 0, none⟩) 1 1 [.slice PA q pc] (by rfl) (Src.of_new wr 22 #[.slice PA q pc] 1 rfl) (by simp [Value.oneCell']) (by simp only [maxLen]; omega) (by omega) ?_
                     intro v9 w9 ho9 hf9 hr9
                     simp only [Act.put, List.setIfInBounds_toArray, List.set_cons_zero, List.set_cons_succ])
                  | fail)
                go_roundw
                case rel =>
                  have s7 := HBI.out.size
                  have r9 : ∀ k, rowOf v9 k → wo.heap.size ≤ k := fun k hk => (hr9 k hk).elim (HU3.out k) (fun h => by simp only [World.size_alloc] at h; omega)
                  refine ⟨i + 1, by omega, by go_num, ?_, (HBI.out.alloc (HBI.out.size) _).trans (hf9.below (by simp only [World.size_alloc]; omega) (fun k hk => HU3.out k hk))⟩
                  rw [HSN.out]
                  exact LsB.snoc (by rw [← HSL.out]; exact HU1.out) (by rw [← HSL.out]; exact ho9) r9 HU4.out (by have := HE.out; unfold Wr.u at this; simp only at this; rw [← HQ.out] at this; exact this)
                case measure => simp [intOf]; omega
              · rw [if_neg hek] at hsn
                have hne : ((rm : Int) == (k : Int)) = false := by rw [beq_eq_false_iff_ne]; exact hek
                have HSN := Lib.hid hsn
                clear hsn htk hr1 hr2 hbw he hem hil hq hek
                go_wp2_with fail
                go_roundw
                case rel => exact ⟨i + 1, by omega, by go_num, by rw [HSN.out]; exact HA.out, HBI.out⟩
                case measure => simp [intOf]; omega
            · obtain rfl : i = nb := by omega
              have hdi : decide ((i : Int) < (i : Int)) = false := decide_eq_false (by omega)
              have htk : fl1.take i = fl1 := List.take_of_length_le (by rw [← HNB.out]; exact Nat.le_refl _)
              rw [htk] at HA
              have HLZK := Lib.hid (HLZ.out k hk4)
              obtain ⟨S, hS⟩ : ∃ S, S = sel (k : Int) fl1 := ⟨_, rfl⟩
              have hS20 : S.length ≤ 20 := by rw [hS]; have := sel_len (k : Int) fl1; have := HL1.out.1; omega
              rw [← hS] at HA HLZK
              have HBK := Lib.hid (HBQ.out.trans (HBI.out.mono HBQ.out.size))
              clear htk hS
              rcases Nat.lt_trichotomy k r with hkr | hkr | hkr
              · have hd1 : decide ((r : Int) < (k : Int)) = false := decide_eq_false (by omega)
                have hd11 : decide (r < k) = false := decide_eq_false (by omega)
                have hd2 : ((k : Int) == (r : Int)) = false := by rw [beq_eq_false_iff_ne]; omega
                have HP : Hid (L2.getD k [] = L1.getD k [] ++ S) := Lib.hid (by rw [HLZK.out]; unfold partL; rw [if_pos (by omega)])
                obtain ⟨us, hu1, hu2, hu3, hu4⟩ := HA.out
                obtain ⟨A7, c7, hv7, -, -⟩ := hu2.shape
                obtain ⟨p, hp⟩ : ∃ p, p = S.length := ⟨_, rfl⟩
                rw [← hp] at hv7
                subst hv7
                have HWN : Hid (LsB wo.heap.size w wr (.slice A7 p c7) S) := HA
                have HPP := Lib.hid hp
                obtain ⟨P, hPS⟩ : ∃ P, P = S := ⟨_, rfl⟩
                subst hPS
                clear hu1 hu2 hu3 hu4 hp HA HLZK hkr
                go_wp2_with fail
                obtain ⟨g3, o3, c3, u3, hv3, hcu, hLu⟩ := HUV.out.at_ k (by rw [HIV.out.1.2.1]; exact hk4)
                injection hv3 with e1 e2 e3
                clear e2
                subst e1 e3
                obtain ⟨g4, o4, c4, u4, hv4, hcv, hLv⟩ := HVV.out.at_ k (by rw [HIV.out.1.2.1]; exact hk4)
                injection hv4 with e1 e2 e3
                clear e2
                subst e1 e3
                have hLx := HLV.out k hk4
                obtain ⟨Au, cu, hvu, -, -⟩ := hLu.ls.shape
                obtain ⟨Av, cv, hvv, -, -⟩ := hLv.ls.shape
                obtain ⟨Ax, cx, hvx, -, -⟩ := hLx.ls.shape
                have hcw := HBV.out.cell k
                rw [show xs[k]? = some (xs.getD k undef) by have := HXZ.out; simp [Array.getD_eq_getD_getElem?, show k < xs.size by omega], hvx] at hcw
                rw [hvx] at hLx
                rw [hvu] at hcu hLu
                rw [hvv] at hcv hLv
                obtain ⟨nu, hnu⟩ : ∃ n, n = (L2.getD k []).length := ⟨_, rfl⟩
                obtain ⟨nx, hnx⟩ : ∃ n, n = (L1.getD k []).length := ⟨_, rfl⟩
                rw [← hnu] at hcu hcv hLu hLv
                rw [← hnx] at hcw hLx
                have hnxp : nx + p ≤ 1000000 := by have := HIU2.out k hk4; rw [HP.out, List.length_append] at this; have h9 := HPP.out; omega
                have HLu := Lib.hid hLu.ls
                have HLv := Lib.hid hLv.ls
                obtain ⟨ux, hux1, hux2, -, hux4⟩ := hLx
                obtain ⟨u7, hu71, hu72, -, hu74⟩ := HWN.out
                rw [← HPP.out] at hu72
                rw [← hnx] at hux2
                have hwV : ∀ W, Below wr.heap.size wr W → Below wV.heap.size wV W := fun W h => HBK.out.trans (h.mono HBK.out.size)
                have HSA : Hid (∀ W v, Below wr.heap.size wr W → Own W 22 1 v (nx + p) (ux ++ u7) → Calls Try.prog 47 #[.slice Au nu cu, v] W fun e W' => e = .returned (.bool true) ∧ Below W.heap.size W W') := Lib.hid (fun W v hW ho => same_any (L2.getD k []) _ _ W (HLu.out.keep (hwV W hW)) (by
                  rw [HP.out]
                  exact Ls.app hux1 hu71 (by rw [← hnx, ← HPP.out]; exact ho) (fun i hi => (hux4 i hi).sl.keep (hwV W hW)) (fun i hi => (hu74 i hi).keep (HWV.out.trans ((hwV W hW).mono HWV.out.size)))) (HIU2.out k hk4))
                have HSB : Hid (∀ W, Below wr.heap.size wr W → Calls Try.prog 47 #[.slice Av nu cv, .slice Au nu cu] W fun e W' => e = .returned (.bool true) ∧ Below W.heap.size W W') := Lib.hid (fun W hW => same_any (L2.getD k []) _ _ W (HLv.out.keep (hwV W hW)) (HLu.out.keep (hwV W hW)) (HIU2.out k hk4))
                have HRD : Hid (∀ W, Below wr.heap.size wr W → Calls Try.prog 54 #[dP d, .int .i64 (k : Int)] W fun e W' => ∃ A1 n1 c1, e = .returned (.slice A1 n1 c1) ∧ Ls W' (.slice A1 n1 c1) (L2.getD k []) ∧ Below W.heap.size W W') := Lib.hid (fun W hW => (read_inv (HDV.out.keep (hwV W hW)) (by omega) HIV.out k hk4).mono (by
                  rintro e W' ⟨A1, n1, c1, h1, h2, h3⟩
                  exact ⟨A1, n1, c1, h1, h2.ls, h3⟩))
                have HSC : Hid (∀ W A1 n1 c1, Below wr.heap.size wr W → Ls W (.slice A1 n1 c1) (L2.getD k []) → Calls Try.prog 47 #[.slice A1 n1 c1, .slice Au nu cu] W fun e W' => e = .returned (.bool true) ∧ Below W.heap.size W W') := Lib.hid (fun W A1 n1 c1 hW h1 => same_any (L2.getD k []) _ _ W h1 (HLu.out.keep (hwV W hW)) (HIU2.out k hk4))
                have hBA : Below wr.heap.size wr wr.drew := (Below.refl wr.heap.size wr).drew
                have hkd : Below wV.heap.size wV wr.drew := hwV _ hBA
                have hcuA := (hkd.cell (p := ⟨g3, o3 + k, none⟩) (cell_lt hcu)).trans hcu
                have hcvA := (hkd.cell (p := ⟨g4, o4 + k, none⟩) (cell_lt hcv)).trans hcv
                have hcwA := (hkd.cell (p := ⟨bW, k, none⟩) (cell_lt hcw)).trans hcw
                have hS1 : Src wr.drew 1 Ax nx ux := Src.fr (Src.of_own hux2) (Fr.of_below hkd nob) (fun _ _ _ _ h => h)
                have hS2 : Src wr.drew 1 A7 p u7 := Src.fr (Src.of_own hu72) (Fr.of_below hBA nob) (fun _ _ _ _ h => h)
                have ho1 : ∀ u ∈ ux, u.oneCell' = true := ls_one hux1 (fun i hi => (hux4 i hi).sl)
                have ho2 : ∀ u ∈ u7, u.oneCell' = true := ls_one hu71 hu74
                have hk0 : (0 : Int) ≤ (k : Int) := by omega
                have hk4i : (k : Int) < 4 := by omega
                have HS1 := Lib.hid hS1
                have HS2 := Lib.hid hS2
                have HO1 := Lib.hid ho1
                have HO2 := Lib.hid ho2
                have hg3 : g3 < wr.heap.size := Nat.lt_of_lt_of_le (cell_lt hcu) HBK.out.size
                have hg4 : g4 < wr.heap.size := Nat.lt_of_lt_of_le (cell_lt hcv) HBK.out.size
                have hgW : bW < wr.heap.size := Nat.lt_of_lt_of_le (cell_lt hcw) HBK.out.size
                clear hvu hvv hvx hLu hLv hux1 hux2 hux4 hu71 hu72 hu74 hwV hkd hcu hcv hcw hS1 hS2 ho1 ho2 hnu hnx
                refine wp_region_grow 35 [([0, 1, 2, 3, 4, 5, 6, 8], 7), ([], 9), ([], 10), ([11, 12, 13, 14, 15, 16, 17, 18, 19, 20], 21), ([22, 23, 24, 25, 26, 28, 29, 30, 31], 27), ([], 32)] [33, 34] (by kernel_rfl) (by kernel_rfl) ?_
                obtain ⟨Bd, hBd⟩ : ∃ Bd, Bd = wr.heap.size := ⟨_, rfl⟩
                have hAB : wr.drew.heap.size = Bd := hBd.symm
                obtain ⟨wA, hwA⟩ : ∃ wA, wA = wr.drew := ⟨_, rfl⟩
                rw [← hwA] at HS1 HS2 hcuA hcvA hcwA hAB hBA ⊢
                rw [← hBd] at HSA HSB HRD HSC hBA hg3 hg4 hgW ⊢
                have HBD := Lib.hid hBd
                clear hwA hBd
                have hg3A : g3 < wA.heap.size := by omega
                have hgWA : bW < wA.heap.size := by omega
                have HBA := Lib.hid hBA
                try simp only [Act.put, List.setIfInBounds_toArray, List.set_cons_zero, List.set_cons_succ]
                refine wpSegs_cons rfl (List.getElem?_toArray ..) ?_
                simp only [pick, List.filterMap_cons, List.filterMap_nil, List.getElem?_toArray, List.getElem?_cons_succ, List.getElem?_cons_zero]
                show wpQuiet _ _ _ _ [_, _, _, _, _, _, _, _] _
                repeat (go_big_quiet_step (fail))
                refine wpQuiet_nil ?_
                rw [if_pos (by rfl)]
                intro K hK
                refine wp_append_o _ (.const (.slice none 0 0)) (.tmp 123) 48 rfl 22 i2 (.slice none 0 0) 1 24 Try.underlying48 hi2 hy0 hy1 hy2 rfl (by omega) (.slice none 0 0) 0 [] rfl (Own.nil _ _ _) Ax nx cx ux rfl HS1.out HO1.out (by simp only [maxLen]; omega) (by omega) ?_
                intro v1 wB hown1 hf1 hr1
                rw [Nat.zero_add, List.nil_append] at hown1
                have hF1 : Fr nob wA wB := hf1.mono (fun k _ hk => by cases hk)
                have hr1A : ∀ k, rowOf v1 k → Bd ≤ k := fun k hk => (hr1 k hk).elim (fun h => by cases h) (fun h => by omega)
                refine hK Bd _ _ (Nat.le_refl _) (fun _ => hF1.mono (fun _ _ h => h.elim)) ?_
                clear hK K hf1 hr1
                have HBB := Lib.hid (HBA.out.trans (hF1.below_nob.mono (by omega)))
                have HS2B := Lib.hid (HS2.out.fr hF1 (fun _ _ _ _ h => h))
                have hcuB := (hF1.cell (g := g3) (o := o3 + k) (s := none) hg3A (fun h => h)).trans hcuA
                have hcvB := (hF1.cell (g := g4) (o := o4 + k) (s := none) (by omega) (fun h => h)).trans hcvA
                have HO1B := Lib.hid hown1
                have HR1 := Lib.hid hr1A
                have hsB : Bd ≤ wB.heap.size := by have := hF1.size; omega
                clear hown1 hr1A hF1 hcuA hcvA hcwA hg3A hgWA HS1 HS2
                try simp only [Act.put, List.setIfInBounds_toArray, List.set_cons_zero, List.set_cons_succ]
                refine wpSegs_cons rfl (List.getElem?_toArray ..) ?_
                simp only [pick, List.filterMap_cons, List.filterMap_nil, List.getElem?_toArray, List.getElem?_cons_succ, List.getElem?_cons_zero]
                refine wpQuiet_nil ?_
                rw [if_pos (by rfl)]
                intro K hK
                refine wp_append_o _ (.tmp 124) (.tmp 125) 48 rfl 22 i2 (.slice none 0 0) 1 24 Try.underlying48 hi2 hy0 hy1 hy2 rfl (by omega) v1 nx ux rfl HO1B.out A7 p c7 u7 rfl HS2B.out HO2.out (by simp only [maxLen]; omega) (by omega) ?_
                intro v2 wC hown2 hf2 hr2
                have hF2 : Fr (geB Bd) wB wC := hf2.mono (fun k _ hk => HR1.out k hk)
                refine hK Bd _ _ (Nat.le_refl _) (fun _ => hF2) ?_
                clear hK K
                have hBC : Below Bd wB wC := hF2.below hsB (fun k hk => hk)
                have HBC := Lib.hid (HBB.out.trans hBC)
                have hcuC := (hBC.cell (p := ⟨g3, o3 + k, none⟩) hg3).trans hcuB
                have hcvC := (hBC.cell (p := ⟨g4, o4 + k, none⟩) hg4).trans hcvB
                obtain ⟨A2, c2, hv2, -, -⟩ := hown2.shape
                obtain ⟨n2, hn2⟩ : ∃ n2, n2 = nx + p := ⟨_, rfl⟩
                have HC := Lib.hid (HSA.out wC v2 HBC.out hown2)
                rw [← hn2] at hv2
                subst hv2
                have hsC : Bd ≤ wC.heap.size := by have := hBC.size; omega
                clear hown2 hf2 hr2 hF2 hBC hcuB hcvB hn2 HSA
                try simp only [Act.put, List.setIfInBounds_toArray, List.set_cons_zero, List.set_cons_succ]
                refine wpSegs_cons rfl (List.getElem?_toArray ..) ?_
                simp only [pick, List.filterMap_cons, List.filterMap_nil, List.getElem?_toArray, List.getElem?_cons_succ, List.getElem?_cons_zero]
                refine wpQuiet_nil ?_
                rw [if_pos (by rfl)]
                intro K hK
                go_simp
                go_at_call 47
                refine HC.out.mono ?_
                rintro en wD ⟨rfl, hbD⟩
                refine hK Bd _ _ (Nat.le_refl _) (fun _ => Fr.of_below hbD _) ?_
                clear hK K
                have HBD2 := Lib.hid (HBC.out.trans (hbD.mono hsC))
                have hcuD := (hbD.cell (p := ⟨g3, o3 + k, none⟩) (Nat.lt_of_lt_of_le hg3 hsC)).trans hcuC
                have hcvD := (hbD.cell (p := ⟨g4, o4 + k, none⟩) (Nat.lt_of_lt_of_le hg4 hsC)).trans hcvC
                have hsD : Bd ≤ wD.heap.size := Nat.le_trans hsC hbD.size
                have hg3D : g3 < wD.heap.size := by omega
                have hg4D : g4 < wD.heap.size := by omega
                clear hbD hcuC hcvC HC
                try simp only [Act.put, List.setIfInBounds_toArray, List.set_cons_zero, List.set_cons_succ]
                refine wpSegs_cons rfl (List.getElem?_toArray ..) ?_
                simp only [pick, List.filterMap_cons, List.filterMap_nil, List.getElem?_toArray, List.getElem?_cons_succ, List.getElem?_cons_zero]
                show wpQuiet _ _ _ _ [_, _, _, _, _, _, _, _, _, _] _
                repeat (go_big_quiet_step (fail))
                refine wpQuiet_nil ?_
                rw [if_pos (by rfl)]
                intro K hK
                go_simp
                go_at_call 47
                refine (HSB.out wD HBD2.out).mono ?_
                rintro en wE ⟨rfl, hbE⟩
                refine hK Bd _ _ (Nat.le_refl _) (fun _ => Fr.of_below hbE _) ?_
                clear hK K
                have HBE := Lib.hid (HBD2.out.trans (hbE.mono hsD))
                have hcuE := (hbE.cell (p := ⟨g3, o3 + k, none⟩) (Nat.lt_of_lt_of_le hg3 hsD)).trans hcuD
                have hsE : Bd ≤ wE.heap.size := Nat.le_trans hsD hbE.size
                have hg3E : g3 < wE.heap.size := by omega
                clear hbE hcuD hcvD hg3D hg4D HSB
                try simp only [Act.put, List.setIfInBounds_toArray, List.set_cons_zero, List.set_cons_succ]
                refine wpSegs_cons rfl (List.getElem?_toArray ..) ?_
                simp only [pick, List.filterMap_cons, List.filterMap_nil, List.getElem?_toArray, List.getElem?_cons_succ, List.getElem?_cons_zero]
                show wpQuiet _ _ _ _ [_, _, _, _, _, _, _, _, _] _
                repeat (go_big_quiet_step (fail))
                refine wpQuiet_nil ?_
                rw [if_pos (by rfl)]
                intro K hK
                go_simp
                go_at_call 54
                refine (HRD.out wE HBE.out).mono ?_
                rintro en wF ⟨A1, n1, c1', rfl, hL1, hbF⟩
                refine hK Bd _ _ (Nat.le_refl _) (fun _ => Fr.of_below hbF _) ?_
                clear hK K
                have HBF := Lib.hid (HBE.out.trans (hbF.mono hsE))
                have hsF : Bd ≤ wF.heap.size := Nat.le_trans hsE hbF.size
                have HF := Lib.hid (HSC.out wF A1 n1 c1' HBF.out hL1)
                clear hbF hcuE hg3E HRD hL1
                try simp only [Act.put, List.setIfInBounds_toArray, List.set_cons_zero, List.set_cons_succ]
                refine wpSegs_cons rfl (List.getElem?_toArray ..) ?_
                simp only [pick, List.filterMap_cons, List.filterMap_nil, List.getElem?_toArray, List.getElem?_cons_succ, List.getElem?_cons_zero]
                refine wpQuiet_nil ?_
                rw [if_pos (by rfl)]
                intro K hK
                go_simp
                go_at_call 47
                refine HF.out.mono ?_
                rintro en wG ⟨rfl, hbG⟩
                refine hK Bd _ _ (Nat.le_refl _) (fun _ => Fr.of_below hbG _) ?_
                clear hK K
                have HBG := Lib.hid (HBF.out.trans (hbG.mono hsF))
                clear hbG HF HSC
                try simp only [Act.put, List.setIfInBounds_toArray, List.set_cons_zero, List.set_cons_succ]
                refine wpSegs_nil rfl ?_
                simp only [pick, List.filterMap_cons, List.filterMap_nil, List.getElem?_toArray, List.getElem?_cons_succ, List.getElem?_cons_zero]
                show wpQuiet _ _ _ _ [_, _] _
                repeat (go_big_quiet_step (fail))
                refine wpQuiet_nil ?_
                refine NoPan.normal ?_
                try simp only [Act.put, List.setIfInBounds_toArray, List.set_cons_zero, List.set_cons_succ]
                go_wp2_with fail
                go_roundw
                case rel => exact ⟨k + 1, by omega, by go_num, HBK.out.trans (HBG.out.mono (by rw [HBD.out]; exact HBK.out.size))⟩
                case measure => simp [intOf]; omega
              · subst hkr
                have hd1 : decide ((k : Int) < (k : Int)) = false := decide_eq_false (by omega)
                obtain ⟨us, hu1, hu2, hu3, hu4⟩ := HA.out
                obtain ⟨A7, c7, hv7, hc71, hc72⟩ := hu2.shape
                obtain ⟨sl, hsl⟩ : ∃ s, s = S.length := ⟨_, rfl⟩
                rw [← hsl] at hv7 hc71 hS20
                subst hv7
                obtain ⟨p, hp⟩ : ∃ p, p = min (max z1 0).toNat sl := ⟨_, rfl⟩
                have hpi : min (max z1 0) (sl : Int) = (p : Int) := by omega
                have hps : p ≤ sl := by omega
                have hpc : (p : Int) ≤ (c7 : Int) := by omega
                have hp0 : (0 : Int) ≤ (p : Int) := by omega
                have hST : S.take (max z1 0).toNat = S.take p := by rw [List.take_eq_take_iff]; omega
                have HP0 : Hid (L2.getD k [] = L1.getD k [] ++ S.take p) := Lib.hid (by rw [HLZK.out]; unfold partL; rw [if_neg (by omega), if_pos rfl, hST])
                have hWN : LsB wo.heap.size w wr (.slice A7 p c7) (S.take p) := LsB.take HA.out hsl p hps
                obtain ⟨P, hPS⟩ : ∃ P, P = S.take p := ⟨_, rfl⟩
                have hpP : p = P.length := by rw [hPS, List.length_take]; omega
                rw [← hPS] at hWN HP0
                have HWN := Lib.hid hWN
                have HP := HP0
                have HPP := Lib.hid hpP
                have hat1 : wr.cell? ⟨w.heap.size, 1, none⟩ = some (.int .i64 z1) := (HBBV.out.below HBK.out HBBV.out.lt).cell 1
                have hatl : w.heap.size < wr.heap.size := (HBBV.out.below HBK.out HBBV.out.lt).lt
                clear hu1 hu2 hu3 hu4 hp hST hWN hPS hpP HP0 hsl HA HLZK
                go_wp2_with fail
                clear hat1 hatl
                obtain ⟨g3, o3, c3, u3, hv3, hcu, hLu⟩ := HUV.out.at_ k (by rw [HIV.out.1.2.1]; exact hk4)
                injection hv3 with e1 e2 e3
                clear e2
                subst e1 e3
                obtain ⟨g4, o4, c4, u4, hv4, hcv, hLv⟩ := HVV.out.at_ k (by rw [HIV.out.1.2.1]; exact hk4)
                injection hv4 with e1 e2 e3
                clear e2
                subst e1 e3
                have hLx := HLV.out k hk4
                obtain ⟨Au, cu, hvu, -, -⟩ := hLu.ls.shape
                obtain ⟨Av, cv, hvv, -, -⟩ := hLv.ls.shape
                obtain ⟨Ax, cx, hvx, -, -⟩ := hLx.ls.shape
                have hcw := HBV.out.cell k
                rw [show xs[k]? = some (xs.getD k undef) by have := HXZ.out; simp [Array.getD_eq_getD_getElem?, show k < xs.size by omega], hvx] at hcw
                rw [hvx] at hLx
                rw [hvu] at hcu hLu
                rw [hvv] at hcv hLv
                obtain ⟨nu, hnu⟩ : ∃ n, n = (L2.getD k []).length := ⟨_, rfl⟩
                obtain ⟨nx, hnx⟩ : ∃ n, n = (L1.getD k []).length := ⟨_, rfl⟩
                rw [← hnu] at hcu hcv hLu hLv
                rw [← hnx] at hcw hLx
                have hnxp : nx + p ≤ 1000000 := by have := HIU2.out k hk4; rw [HP.out, List.length_append] at this; have h9 := HPP.out; omega
                have HLu := Lib.hid hLu.ls
                have HLv := Lib.hid hLv.ls
                obtain ⟨ux, hux1, hux2, -, hux4⟩ := hLx
                obtain ⟨u7, hu71, hu72, -, hu74⟩ := HWN.out
                rw [← HPP.out] at hu72
                rw [← hnx] at hux2
                have hwV : ∀ W, Below wr.heap.size wr W → Below wV.heap.size wV W := fun W h => HBK.out.trans (h.mono HBK.out.size)
                have HSA : Hid (∀ W v, Below wr.heap.size wr W → Own W 22 1 v (nx + p) (ux ++ u7) → Calls Try.prog 47 #[.slice Au nu cu, v] W fun e W' => e = .returned (.bool true) ∧ Below W.heap.size W W') := Lib.hid (fun W v hW ho => same_any (L2.getD k []) _ _ W (HLu.out.keep (hwV W hW)) (by
                  rw [HP.out]
                  exact Ls.app hux1 hu71 (by rw [← hnx, ← HPP.out]; exact ho) (fun i hi => (hux4 i hi).sl.keep (hwV W hW)) (fun i hi => (hu74 i hi).keep (HWV.out.trans ((hwV W hW).mono HWV.out.size)))) (HIU2.out k hk4))
                have HSB : Hid (∀ W, Below wr.heap.size wr W → Calls Try.prog 47 #[.slice Av nu cv, .slice Au nu cu] W fun e W' => e = .returned (.bool true) ∧ Below W.heap.size W W') := Lib.hid (fun W hW => same_any (L2.getD k []) _ _ W (HLv.out.keep (hwV W hW)) (HLu.out.keep (hwV W hW)) (HIU2.out k hk4))
                have HRD : Hid (∀ W, Below wr.heap.size wr W → Calls Try.prog 54 #[dP d, .int .i64 (k : Int)] W fun e W' => ∃ A1 n1 c1, e = .returned (.slice A1 n1 c1) ∧ Ls W' (.slice A1 n1 c1) (L2.getD k []) ∧ Below W.heap.size W W') := Lib.hid (fun W hW => (read_inv (HDV.out.keep (hwV W hW)) (by omega) HIV.out k hk4).mono (by
                  rintro e W' ⟨A1, n1, c1, h1, h2, h3⟩
                  exact ⟨A1, n1, c1, h1, h2.ls, h3⟩))
                have HSC : Hid (∀ W A1 n1 c1, Below wr.heap.size wr W → Ls W (.slice A1 n1 c1) (L2.getD k []) → Calls Try.prog 47 #[.slice A1 n1 c1, .slice Au nu cu] W fun e W' => e = .returned (.bool true) ∧ Below W.heap.size W W') := Lib.hid (fun W A1 n1 c1 hW h1 => same_any (L2.getD k []) _ _ W h1 (HLu.out.keep (hwV W hW)) (HIU2.out k hk4))
                have hBA : Below wr.heap.size wr wr.drew := (Below.refl wr.heap.size wr).drew
                have hkd : Below wV.heap.size wV wr.drew := hwV _ hBA
                have hcuA := (hkd.cell (p := ⟨g3, o3 + k, none⟩) (cell_lt hcu)).trans hcu
                have hcvA := (hkd.cell (p := ⟨g4, o4 + k, none⟩) (cell_lt hcv)).trans hcv
                have hcwA := (hkd.cell (p := ⟨bW, k, none⟩) (cell_lt hcw)).trans hcw
                have hS1 : Src wr.drew 1 Ax nx ux := Src.fr (Src.of_own hux2) (Fr.of_below hkd nob) (fun _ _ _ _ h => h)
                have hS2 : Src wr.drew 1 A7 p u7 := Src.fr (Src.of_own hu72) (Fr.of_below hBA nob) (fun _ _ _ _ h => h)
                have ho1 : ∀ u ∈ ux, u.oneCell' = true := ls_one hux1 (fun i hi => (hux4 i hi).sl)
                have ho2 : ∀ u ∈ u7, u.oneCell' = true := ls_one hu71 hu74
                have hk0 : (0 : Int) ≤ (k : Int) := by omega
                have hk4i : (k : Int) < 4 := by omega
                have HS1 := Lib.hid hS1
                have HS2 := Lib.hid hS2
                have HO1 := Lib.hid ho1
                have HO2 := Lib.hid ho2
                have hg3 : g3 < wr.heap.size := Nat.lt_of_lt_of_le (cell_lt hcu) HBK.out.size
                have hg4 : g4 < wr.heap.size := Nat.lt_of_lt_of_le (cell_lt hcv) HBK.out.size
                have hgW : bW < wr.heap.size := Nat.lt_of_lt_of_le (cell_lt hcw) HBK.out.size
                clear hvu hvv hvx hLu hLv hux1 hux2 hux4 hu71 hu72 hu74 hwV hkd hcu hcv hcw hS1 hS2 ho1 ho2 hnu hnx
                refine wp_region_grow 35 [([0, 1, 2, 3, 4, 5, 6, 8], 7), ([], 9), ([], 10), ([11, 12, 13, 14, 15, 16, 17, 18, 19, 20], 21), ([22, 23, 24, 25, 26, 28, 29, 30, 31], 27), ([], 32)] [33, 34] (by kernel_rfl) (by kernel_rfl) ?_
                obtain ⟨Bd, hBd⟩ : ∃ Bd, Bd = wr.heap.size := ⟨_, rfl⟩
                have hAB : wr.drew.heap.size = Bd := hBd.symm
                obtain ⟨wA, hwA⟩ : ∃ wA, wA = wr.drew := ⟨_, rfl⟩
                rw [← hwA] at HS1 HS2 hcuA hcvA hcwA hAB hBA ⊢
                rw [← hBd] at HSA HSB HRD HSC hBA hg3 hg4 hgW ⊢
                have HBD := Lib.hid hBd
                clear hwA hBd
                have hg3A : g3 < wA.heap.size := by omega
                have hgWA : bW < wA.heap.size := by omega
                have HBA := Lib.hid hBA
                try simp only [Act.put, List.setIfInBounds_toArray, List.set_cons_zero, List.set_cons_succ]
                refine wpSegs_cons rfl (List.getElem?_toArray ..) ?_
                simp only [pick, List.filterMap_cons, List.filterMap_nil, List.getElem?_toArray, List.getElem?_cons_succ, List.getElem?_cons_zero]
                show wpQuiet _ _ _ _ [_, _, _, _, _, _, _, _] _
                repeat (go_big_quiet_step (fail))
                refine wpQuiet_nil ?_
                rw [if_pos (by rfl)]
                intro K hK
                refine wp_append_o _ (.const (.slice none 0 0)) (.tmp 123) 48 rfl 22 i2 (.slice none 0 0) 1 24 Try.underlying48 hi2 hy0 hy1 hy2 rfl (by omega) (.slice none 0 0) 0 [] rfl (Own.nil _ _ _) Ax nx cx ux rfl HS1.out HO1.out (by simp only [maxLen]; omega) (by omega) ?_
                intro v1 wB hown1 hf1 hr1
                rw [Nat.zero_add, List.nil_append] at hown1
                have hF1 : Fr nob wA wB := hf1.mono (fun k _ hk => by cases hk)
                have hr1A : ∀ k, rowOf v1 k → Bd ≤ k := fun k hk => (hr1 k hk).elim (fun h => by cases h) (fun h => by omega)
                refine hK Bd _ _ (Nat.le_refl _) (fun _ => hF1.mono (fun _ _ h => h.elim)) ?_
                clear hK K hf1 hr1
                have HBB := Lib.hid (HBA.out.trans (hF1.below_nob.mono (by omega)))
                have HS2B := Lib.hid (HS2.out.fr hF1 (fun _ _ _ _ h => h))
                have hcuB := (hF1.cell (g := g3) (o := o3 + k) (s := none) hg3A (fun h => h)).trans hcuA
                have hcvB := (hF1.cell (g := g4) (o := o4 + k) (s := none) (by omega) (fun h => h)).trans hcvA
                have HO1B := Lib.hid hown1
                have HR1 := Lib.hid hr1A
                have hsB : Bd ≤ wB.heap.size := by have := hF1.size; omega
                clear hown1 hr1A hF1 hcuA hcvA hcwA hg3A hgWA HS1 HS2
                try simp only [Act.put, List.setIfInBounds_toArray, List.set_cons_zero, List.set_cons_succ]
                refine wpSegs_cons rfl (List.getElem?_toArray ..) ?_
                simp only [pick, List.filterMap_cons, List.filterMap_nil, List.getElem?_toArray, List.getElem?_cons_succ, List.getElem?_cons_zero]
                refine wpQuiet_nil ?_
                rw [if_pos (by rfl)]
                intro K hK
                refine wp_append_o _ (.tmp 124) (.tmp 125) 48 rfl 22 i2 (.slice none 0 0) 1 24 Try.underlying48 hi2 hy0 hy1 hy2 rfl (by omega) v1 nx ux rfl HO1B.out A7 p c7 u7 rfl HS2B.out HO2.out (by simp only [maxLen]; omega) (by omega) ?_
                intro v2 wC hown2 hf2 hr2
                have hF2 : Fr (geB Bd) wB wC := hf2.mono (fun k _ hk => HR1.out k hk)
                refine hK Bd _ _ (Nat.le_refl _) (fun _ => hF2) ?_
                clear hK K
                have hBC : Below Bd wB wC := hF2.below hsB (fun k hk => hk)
                have HBC := Lib.hid (HBB.out.trans hBC)
                have hcuC := (hBC.cell (p := ⟨g3, o3 + k, none⟩) hg3).trans hcuB
                have hcvC := (hBC.cell (p := ⟨g4, o4 + k, none⟩) hg4).trans hcvB
                obtain ⟨A2, c2, hv2, -, -⟩ := hown2.shape
                obtain ⟨n2, hn2⟩ : ∃ n2, n2 = nx + p := ⟨_, rfl⟩
                have HC := Lib.hid (HSA.out wC v2 HBC.out hown2)
                rw [← hn2] at hv2
                subst hv2
                have hsC : Bd ≤ wC.heap.size := by have := hBC.size; omega
                clear hown2 hf2 hr2 hF2 hBC hcuB hcvB hn2 HSA
                try simp only [Act.put, List.setIfInBounds_toArray, List.set_cons_zero, List.set_cons_succ]
                refine wpSegs_cons rfl (List.getElem?_toArray ..) ?_
                simp only [pick, List.filterMap_cons, List.filterMap_nil, List.getElem?_toArray, List.getElem?_cons_succ, List.getElem?_cons_zero]
                refine wpQuiet_nil ?_
                rw [if_pos (by rfl)]
                intro K hK
                go_simp
                go_at_call 47
                refine HC.out.mono ?_
                rintro en wD ⟨rfl, hbD⟩
                refine hK Bd _ _ (Nat.le_refl _) (fun _ => Fr.of_below hbD _) ?_
                clear hK K
                have HBD2 := Lib.hid (HBC.out.trans (hbD.mono hsC))
                have hcuD := (hbD.cell (p := ⟨g3, o3 + k, none⟩) (Nat.lt_of_lt_of_le hg3 hsC)).trans hcuC
                have hcvD := (hbD.cell (p := ⟨g4, o4 + k, none⟩) (Nat.lt_of_lt_of_le hg4 hsC)).trans hcvC
                have hsD : Bd ≤ wD.heap.size := Nat.le_trans hsC hbD.size
                have hg3D : g3 < wD.heap.size := by omega
                have hg4D : g4 < wD.heap.size := by omega
                clear hbD hcuC hcvC HC
                try simp only [Act.put, List.setIfInBounds_toArray, List.set_cons_zero, List.set_cons_succ]
                refine wpSegs_cons rfl (List.getElem?_toArray ..) ?_
                simp only [pick, List.filterMap_cons, List.filterMap_nil, List.getElem?_toArray, List.getElem?_cons_succ, List.getElem?_cons_zero]
                show wpQuiet _ _ _ _ [_, _, _, _, _, _, _, _, _, _] _
                repeat (go_big_quiet_step (fail))
                refine wpQuiet_nil ?_
                rw [if_pos (by rfl)]
                intro K hK
                go_simp
                go_at_call 47
                refine (HSB.out wD HBD2.out).mono ?_
                rintro en wE ⟨rfl, hbE⟩
                refine hK Bd _ _ (Nat.le_refl _) (fun _ => Fr.of_below hbE _) ?_
                clear hK K
                have HBE := Lib.hid (HBD2.out.trans (hbE.mono hsD))
                have hcuE := (hbE.cell (p := ⟨g3, o3 + k, none⟩) (Nat.lt_of_lt_of_le hg3 hsD)).trans hcuD
                have hsE : Bd ≤ wE.heap.size := Nat.le_trans hsD hbE.size
                have hg3E : g3 < wE.heap.size := by omega
                clear hbE hcuD hcvD hg3D hg4D HSB
                try simp only [Act.put, List.setIfInBounds_toArray, List.set_cons_zero, List.set_cons_succ]
                refine wpSegs_cons rfl (List.getElem?_toArray ..) ?_
                simp only [pick, List.filterMap_cons, List.filterMap_nil, List.getElem?_toArray, List.getElem?_cons_succ, List.getElem?_cons_zero]
                show wpQuiet _ _ _ _ [_, _, _, _, _, _, _, _, _] _
                repeat (go_big_quiet_step (fail))
                refine wpQuiet_nil ?_
                rw [if_pos (by rfl)]
                intro K hK
                go_simp
                go_at_call 54
                refine (HRD.out wE HBE.out).mono ?_
                rintro en wF ⟨A1, n1, c1', rfl, hL1, hbF⟩
                refine hK Bd _ _ (Nat.le_refl _) (fun _ => Fr.of_below hbF _) ?_
                clear hK K
                have HBF := Lib.hid (HBE.out.trans (hbF.mono hsE))
                have hsF : Bd ≤ wF.heap.size := Nat.le_trans hsE hbF.size
                have HF := Lib.hid (HSC.out wF A1 n1 c1' HBF.out hL1)
                clear hbF hcuE hg3E HRD hL1
                try simp only [Act.put, List.setIfInBounds_toArray, List.set_cons_zero, List.set_cons_succ]
                refine wpSegs_cons rfl (List.getElem?_toArray ..) ?_
                simp only [pick, List.filterMap_cons, List.filterMap_nil, List.getElem?_toArray, List.getElem?_cons_succ, List.getElem?_cons_zero]
                refine wpQuiet_nil ?_
                rw [if_pos (by rfl)]
                intro K hK
                go_simp
                go_at_call 47
                refine HF.out.mono ?_
                rintro en wG ⟨rfl, hbG⟩
                refine hK Bd _ _ (Nat.le_refl _) (fun _ => Fr.of_below hbG _) ?_
                clear hK K
                have HBG := Lib.hid (HBF.out.trans (hbG.mono hsF))
                clear hbG HF HSC
                try simp only [Act.put, List.setIfInBounds_toArray, List.set_cons_zero, List.set_cons_succ]
                refine wpSegs_nil rfl ?_
                simp only [pick, List.filterMap_cons, List.filterMap_nil, List.getElem?_toArray, List.getElem?_cons_succ, List.getElem?_cons_zero]
                show wpQuiet _ _ _ _ [_, _] _
                repeat (go_big_quiet_step (fail))
                refine wpQuiet_nil ?_
                refine NoPan.normal ?_
                try simp only [Act.put, List.setIfInBounds_toArray, List.set_cons_zero, List.set_cons_succ]
                go_wp2_with fail
                go_roundw
                case rel => exact ⟨k + 1, by omega, by go_num, HBK.out.trans (HBG.out.mono (by rw [HBD.out]; exact HBK.out.size))⟩
                case measure => simp [intOf]; omega
              · have hd1 : decide ((r : Int) < (k : Int)) = true := decide_eq_true (by omega)
                have hd11 : decide (r < k) = true := decide_eq_true (by omega)
                have hd2 : ((k : Int) == (r : Int)) = false := by rw [beq_eq_false_iff_ne]; omega
                have HP0 : Hid (L2.getD k [] = L1.getD k [] ++ []) := Lib.hid (by rw [HLZK.out]; unfold partL; rw [if_neg (by omega), if_neg (by omega)])
                go_wp2_with fail
                clear HA
                obtain ⟨P, hPS⟩ : ∃ P : List (List UInt8), P = [] := ⟨_, rfl⟩
                have HP : Hid (L2.getD k [] = L1.getD k [] ++ P) := Lib.hid (by rw [hPS]; exact HP0.out)
                have HWN : Hid (LsB wo.heap.size w wr (.slice none 0 0) P) := Lib.hid (by rw [hPS]; exact LsB.nil _ _ _)
                have HPP : Hid (0 = P.length) := Lib.hid (by rw [hPS]; rfl)
                clear hPS HLZK hkr
                obtain ⟨g3, o3, c3, u3, hv3, hcu, hLu⟩ := HUV.out.at_ k (by rw [HIV.out.1.2.1]; exact hk4)
                injection hv3 with e1 e2 e3
                clear e2
                subst e1 e3
                obtain ⟨g4, o4, c4, u4, hv4, hcv, hLv⟩ := HVV.out.at_ k (by rw [HIV.out.1.2.1]; exact hk4)
                injection hv4 with e1 e2 e3
                clear e2
                subst e1 e3
                have hLx := HLV.out k hk4
                obtain ⟨Au, cu, hvu, -, -⟩ := hLu.ls.shape
                obtain ⟨Av, cv, hvv, -, -⟩ := hLv.ls.shape
                obtain ⟨Ax, cx, hvx, -, -⟩ := hLx.ls.shape
                have hcw := HBV.out.cell k
                rw [show xs[k]? = some (xs.getD k undef) by have := HXZ.out; simp [Array.getD_eq_getD_getElem?, show k < xs.size by omega], hvx] at hcw
                rw [hvx] at hLx
                rw [hvu] at hcu hLu
                rw [hvv] at hcv hLv
                obtain ⟨nu, hnu⟩ : ∃ n, n = (L2.getD k []).length := ⟨_, rfl⟩
                obtain ⟨nx, hnx⟩ : ∃ n, n = (L1.getD k []).length := ⟨_, rfl⟩
                rw [← hnu] at hcu hcv hLu hLv
                rw [← hnx] at hcw hLx
                have hnxp : nx + 0 ≤ 1000000 := by have := HIU2.out k hk4; rw [HP.out, List.length_append] at this; have h9 := HPP.out; omega
                have HLu := Lib.hid hLu.ls
                have HLv := Lib.hid hLv.ls
                obtain ⟨ux, hux1, hux2, -, hux4⟩ := hLx
                obtain ⟨u7, hu71, hu72, -, hu74⟩ := HWN.out
                rw [← HPP.out] at hu72
                rw [← hnx] at hux2
                have hwV : ∀ W, Below wr.heap.size wr W → Below wV.heap.size wV W := fun W h => HBK.out.trans (h.mono HBK.out.size)
                have HSA : Hid (∀ W v, Below wr.heap.size wr W → Own W 22 1 v (nx + 0) (ux ++ u7) → Calls Try.prog 47 #[.slice Au nu cu, v] W fun e W' => e = .returned (.bool true) ∧ Below W.heap.size W W') := Lib.hid (fun W v hW ho => same_any (L2.getD k []) _ _ W (HLu.out.keep (hwV W hW)) (by
                  rw [HP.out]
                  exact Ls.app hux1 hu71 (by rw [← hnx, ← HPP.out]; exact ho) (fun i hi => (hux4 i hi).sl.keep (hwV W hW)) (fun i hi => (hu74 i hi).keep (HWV.out.trans ((hwV W hW).mono HWV.out.size)))) (HIU2.out k hk4))
                have HSB : Hid (∀ W, Below wr.heap.size wr W → Calls Try.prog 47 #[.slice Av nu cv, .slice Au nu cu] W fun e W' => e = .returned (.bool true) ∧ Below W.heap.size W W') := Lib.hid (fun W hW => same_any (L2.getD k []) _ _ W (HLv.out.keep (hwV W hW)) (HLu.out.keep (hwV W hW)) (HIU2.out k hk4))
                have HRD : Hid (∀ W, Below wr.heap.size wr W → Calls Try.prog 54 #[dP d, .int .i64 (k : Int)] W fun e W' => ∃ A1 n1 c1, e = .returned (.slice A1 n1 c1) ∧ Ls W' (.slice A1 n1 c1) (L2.getD k []) ∧ Below W.heap.size W W') := Lib.hid (fun W hW => (read_inv (HDV.out.keep (hwV W hW)) (by omega) HIV.out k hk4).mono (by
                  rintro e W' ⟨A1, n1, c1, h1, h2, h3⟩
                  exact ⟨A1, n1, c1, h1, h2.ls, h3⟩))
                have HSC : Hid (∀ W A1 n1 c1, Below wr.heap.size wr W → Ls W (.slice A1 n1 c1) (L2.getD k []) → Calls Try.prog 47 #[.slice A1 n1 c1, .slice Au nu cu] W fun e W' => e = .returned (.bool true) ∧ Below W.heap.size W W') := Lib.hid (fun W A1 n1 c1 hW h1 => same_any (L2.getD k []) _ _ W h1 (HLu.out.keep (hwV W hW)) (HIU2.out k hk4))
                have hBA : Below wr.heap.size wr wr.drew := (Below.refl wr.heap.size wr).drew
                have hkd : Below wV.heap.size wV wr.drew := hwV _ hBA
                have hcuA := (hkd.cell (p := ⟨g3, o3 + k, none⟩) (cell_lt hcu)).trans hcu
                have hcvA := (hkd.cell (p := ⟨g4, o4 + k, none⟩) (cell_lt hcv)).trans hcv
                have hcwA := (hkd.cell (p := ⟨bW, k, none⟩) (cell_lt hcw)).trans hcw
                have hS1 : Src wr.drew 1 Ax nx ux := Src.fr (Src.of_own hux2) (Fr.of_below hkd nob) (fun _ _ _ _ h => h)
                have hS2 : Src wr.drew 1 none 0 u7 := Src.fr (Src.of_own hu72) (Fr.of_below hBA nob) (fun _ _ _ _ h => h)
                have ho1 : ∀ u ∈ ux, u.oneCell' = true := ls_one hux1 (fun i hi => (hux4 i hi).sl)
                have ho2 : ∀ u ∈ u7, u.oneCell' = true := ls_one hu71 hu74
                have hk0 : (0 : Int) ≤ (k : Int) := by omega
                have hk4i : (k : Int) < 4 := by omega
                have HS1 := Lib.hid hS1
                have HS2 := Lib.hid hS2
                have HO1 := Lib.hid ho1
                have HO2 := Lib.hid ho2
                have hg3 : g3 < wr.heap.size := Nat.lt_of_lt_of_le (cell_lt hcu) HBK.out.size
                have hg4 : g4 < wr.heap.size := Nat.lt_of_lt_of_le (cell_lt hcv) HBK.out.size
                have hgW : bW < wr.heap.size := Nat.lt_of_lt_of_le (cell_lt hcw) HBK.out.size
                clear hvu hvv hvx hLu hLv hux1 hux2 hux4 hu71 hu72 hu74 hwV hkd hcu hcv hcw hS1 hS2 ho1 ho2 hnu hnx
                refine wp_region_grow 35 [([0, 1, 2, 3, 4, 5, 6, 8], 7), ([], 9), ([], 10), ([11, 12, 13, 14, 15, 16, 17, 18, 19, 20], 21), ([22, 23, 24, 25, 26, 28, 29, 30, 31], 27), ([], 32)] [33, 34] (by kernel_rfl) (by kernel_rfl) ?_
                obtain ⟨Bd, hBd⟩ : ∃ Bd, Bd = wr.heap.size := ⟨_, rfl⟩
                have hAB : wr.drew.heap.size = Bd := hBd.symm
                obtain ⟨wA, hwA⟩ : ∃ wA, wA = wr.drew := ⟨_, rfl⟩
                rw [← hwA] at HS1 HS2 hcuA hcvA hcwA hAB hBA ⊢
                rw [← hBd] at HSA HSB HRD HSC hBA hg3 hg4 hgW ⊢
                have HBD := Lib.hid hBd
                clear hwA hBd
                have hg3A : g3 < wA.heap.size := by omega
                have hgWA : bW < wA.heap.size := by omega
                have HBA := Lib.hid hBA
                try simp only [Act.put, List.setIfInBounds_toArray, List.set_cons_zero, List.set_cons_succ]
                refine wpSegs_cons rfl (List.getElem?_toArray ..) ?_
                simp only [pick, List.filterMap_cons, List.filterMap_nil, List.getElem?_toArray, List.getElem?_cons_succ, List.getElem?_cons_zero]
                show wpQuiet _ _ _ _ [_, _, _, _, _, _, _, _] _
                repeat (go_big_quiet_step (fail))
                refine wpQuiet_nil ?_
                rw [if_pos (by rfl)]
                intro K hK
                refine wp_append_o _ (.const (.slice none 0 0)) (.tmp 123) 48 rfl 22 i2 (.slice none 0 0) 1 24 Try.underlying48 hi2 hy0 hy1 hy2 rfl (by omega) (.slice none 0 0) 0 [] rfl (Own.nil _ _ _) Ax nx cx ux rfl HS1.out HO1.out (by simp only [maxLen]; omega) (by omega) ?_
                intro v1 wB hown1 hf1 hr1
                rw [Nat.zero_add, List.nil_append] at hown1
                have hF1 : Fr nob wA wB := hf1.mono (fun k _ hk => by cases hk)
                have hr1A : ∀ k, rowOf v1 k → Bd ≤ k := fun k hk => (hr1 k hk).elim (fun h => by cases h) (fun h => by omega)
                refine hK Bd _ _ (Nat.le_refl _) (fun _ => hF1.mono (fun _ _ h => h.elim)) ?_
                clear hK K hf1 hr1
                have HBB := Lib.hid (HBA.out.trans (hF1.below_nob.mono (by omega)))
                have HS2B := Lib.hid (HS2.out.fr hF1 (fun _ _ _ _ h => h))
                have hcuB := (hF1.cell (g := g3) (o := o3 + k) (s := none) hg3A (fun h => h)).trans hcuA
                have hcvB := (hF1.cell (g := g4) (o := o4 + k) (s := none) (by omega) (fun h => h)).trans hcvA
                have HO1B := Lib.hid hown1
                have HR1 := Lib.hid hr1A
                have hsB : Bd ≤ wB.heap.size := by have := hF1.size; omega
                clear hown1 hr1A hF1 hcuA hcvA hcwA hg3A hgWA HS1 HS2
                try simp only [Act.put, List.setIfInBounds_toArray, List.set_cons_zero, List.set_cons_succ]
                refine wpSegs_cons rfl (List.getElem?_toArray ..) ?_
                simp only [pick, List.filterMap_cons, List.filterMap_nil, List.getElem?_toArray, List.getElem?_cons_succ, List.getElem?_cons_zero]
                refine wpQuiet_nil ?_
                rw [if_pos (by rfl)]
                intro K hK
                refine wp_append_o _ (.tmp 124) (.tmp 125) 48 rfl 22 i2 (.slice none 0 0) 1 24 Try.underlying48 hi2 hy0 hy1 hy2 rfl (by omega) v1 nx ux rfl HO1B.out none 0 0 u7 rfl HS2B.out HO2.out (by simp only [maxLen]; omega) (by omega) ?_
                intro v2 wC hown2 hf2 hr2
                have hF2 : Fr (geB Bd) wB wC := hf2.mono (fun k _ hk => HR1.out k hk)
                refine hK Bd _ _ (Nat.le_refl _) (fun _ => hF2) ?_
                clear hK K
                have hBC : Below Bd wB wC := hF2.below hsB (fun k hk => hk)
                have HBC := Lib.hid (HBB.out.trans hBC)
                have hcuC := (hBC.cell (p := ⟨g3, o3 + k, none⟩) hg3).trans hcuB
                have hcvC := (hBC.cell (p := ⟨g4, o4 + k, none⟩) hg4).trans hcvB
                obtain ⟨A2, c2, hv2, -, -⟩ := hown2.shape
                obtain ⟨n2, hn2⟩ : ∃ n2, n2 = nx + 0 := ⟨_, rfl⟩
                have HC := Lib.hid (HSA.out wC v2 HBC.out hown2)
                rw [← hn2] at hv2
                subst hv2
                have hsC : Bd ≤ wC.heap.size := by have := hBC.size; omega
                clear hown2 hf2 hr2 hF2 hBC hcuB hcvB hn2 HSA
                try simp only [Act.put, List.setIfInBounds_toArray, List.set_cons_zero, List.set_cons_succ]
                refine wpSegs_cons rfl (List.getElem?_toArray ..) ?_
                simp only [pick, List.filterMap_cons, List.filterMap_nil, List.getElem?_toArray, List.getElem?_cons_succ, List.getElem?_cons_zero]
                refine wpQuiet_nil ?_
                rw [if_pos (by rfl)]
                intro K hK
                go_simp
                go_at_call 47
                refine HC.out.mono ?_
                rintro en wD ⟨rfl, hbD⟩
                refine hK Bd _ _ (Nat.le_refl _) (fun _ => Fr.of_below hbD _) ?_
                clear hK K
                have HBD2 := Lib.hid (HBC.out.trans (hbD.mono hsC))
                have hcuD := (hbD.cell (p := ⟨g3, o3 + k, none⟩) (Nat.lt_of_lt_of_le hg3 hsC)).trans hcuC
                have hcvD := (hbD.cell (p := ⟨g4, o4 + k, none⟩) (Nat.lt_of_lt_of_le hg4 hsC)).trans hcvC
                have hsD : Bd ≤ wD.heap.size := Nat.le_trans hsC hbD.size
                have hg3D : g3 < wD.heap.size := by omega
                have hg4D : g4 < wD.heap.size := by omega
                clear hbD hcuC hcvC HC
                try simp only [Act.put, List.setIfInBounds_toArray, List.set_cons_zero, List.set_cons_succ]
                refine wpSegs_cons rfl (List.getElem?_toArray ..) ?_
                simp only [pick, List.filterMap_cons, List.filterMap_nil, List.getElem?_toArray, List.getElem?_cons_succ, List.getElem?_cons_zero]
                show wpQuiet _ _ _ _ [_, _, _, _, _, _, _, _, _, _] _
                repeat (go_big_quiet_step (fail))
                refine wpQuiet_nil ?_
                rw [if_pos (by rfl)]
                intro K hK
                go_simp
                go_at_call 47
                refine (HSB.out wD HBD2.out).mono ?_
                rintro en wE ⟨rfl, hbE⟩
                refine hK Bd _ _ (Nat.le_refl _) (fun _ => Fr.of_below hbE _) ?_
                clear hK K
                have HBE := Lib.hid (HBD2.out.trans (hbE.mono hsD))
                have hcuE := (hbE.cell (p := ⟨g3, o3 + k, none⟩) (Nat.lt_of_lt_of_le hg3 hsD)).trans hcuD
                have hsE : Bd ≤ wE.heap.size := Nat.le_trans hsD hbE.size
                have hg3E : g3 < wE.heap.size := by omega
                clear hbE hcuD hcvD hg3D hg4D HSB
                try simp only [Act.put, List.setIfInBounds_toArray, List.set_cons_zero, List.set_cons_succ]
                refine wpSegs_cons rfl (List.getElem?_toArray ..) ?_
                simp only [pick, List.filterMap_cons, List.filterMap_nil, List.getElem?_toArray, List.getElem?_cons_succ, List.getElem?_cons_zero]
                show wpQuiet _ _ _ _ [_, _, _, _, _, _, _, _, _] _
                repeat (go_big_quiet_step (fail))
                refine wpQuiet_nil ?_
                rw [if_pos (by rfl)]
                intro K hK
                go_simp
                go_at_call 54
                refine (HRD.out wE HBE.out).mono ?_
                rintro en wF ⟨A1, n1, c1', rfl, hL1, hbF⟩
                refine hK Bd _ _ (Nat.le_refl _) (fun _ => Fr.of_below hbF _) ?_
                clear hK K
                have HBF := Lib.hid (HBE.out.trans (hbF.mono hsE))
                have hsF : Bd ≤ wF.heap.size := Nat.le_trans hsE hbF.size
                have HF := Lib.hid (HSC.out wF A1 n1 c1' HBF.out hL1)
                clear hbF hcuE hg3E HRD hL1
                try simp only [Act.put, List.setIfInBounds_toArray, List.set_cons_zero, List.set_cons_succ]
                refine wpSegs_cons rfl (List.getElem?_toArray ..) ?_
                simp only [pick, List.filterMap_cons, List.filterMap_nil, List.getElem?_toArray, List.getElem?_cons_succ, List.getElem?_cons_zero]
                refine wpQuiet_nil ?_
                rw [if_pos (by rfl)]
                intro K hK
                go_simp
                go_at_call 47
                refine HF.out.mono ?_
                rintro en wG ⟨rfl, hbG⟩
                refine hK Bd _ _ (Nat.le_refl _) (fun _ => Fr.of_below hbG _) ?_
                clear hK K
                have HBG := Lib.hid (HBF.out.trans (hbG.mono hsF))
                clear hbG HF HSC
                try simp only [Act.put, List.setIfInBounds_toArray, List.set_cons_zero, List.set_cons_succ]
                refine wpSegs_nil rfl ?_
                simp only [pick, List.filterMap_cons, List.filterMap_nil, List.getElem?_toArray, List.getElem?_cons_succ, List.getElem?_cons_zero]
                show wpQuiet _ _ _ _ [_, _] _
                repeat (go_big_quiet_step (fail))
                refine wpQuiet_nil ?_
                refine NoPan.normal ?_
                try simp only [Act.put, List.setIfInBounds_toArray, List.set_cons_zero, List.set_cons_succ]
                go_wp2_with fail
                go_roundw
                case rel => exact ⟨k + 1, by omega, by go_num, HBK.out.trans (HBG.out.mono (by rw [HBD.out]; exact HBK.out.size))⟩
                case measure => simp [intOf]; omega
        · have hd : decide ((k : Int) < 4) = false := decide_eq_false (by omega)
          have hDo := HDV.out.keep HBQ.out
          obtain ⟨Z, hZ⟩ : ∃ Z, Z = (recs (L2.getD r [])).length := ⟨_, rfl⟩
          have hZS := size_inv hDo (by omega) HIV.out r hr
          have hZL := (HIV.out.1.2.2 r hr).2.2.2
          have hZR := (HIV.out.2 rfl).2.2 r hr
          rw [hZR.1, ← hZ] at hZL
          rw [← hZ] at hZS
          have HZS := Lib.hid hZS
          have HBR := Lib.hid (broken_any hDo)
          have HWF := Lib.hid (HWV.out.trans (HBQ.out.mono HWV.out.size))
          by_cases h59 : 59000 < Z
          · have h1 : decide ((59000 : Int) < (Z : Int)) = true := decide_eq_true (by omega)
            have h2 : decide (59000 < Z) = true := decide_eq_true h59
            clear hDo hZ hZS hZL hZR
            go_wp2_with (first
              | (go_at_call 56
                 refine HBR.out.mono ?_
                 rintro e wQ ⟨rfl, rfl⟩)
              | (go_at_call 53
                 refine HZS.out.mono ?_
                 rintro e wQ ⟨rfl, rfl⟩)
              | fail)
            go_ret
            exact ⟨rfl, HWF.out⟩
          · have h1 : decide ((59000 : Int) < (Z : Int)) = false := decide_eq_false (by omega)
            have h2 : decide (59000 < Z) = false := decide_eq_false h59
            have HX := Lib.hid (write_x hDo (by omega) HIV.out r hr (by omega))
            have HWD := Lib.hid HW1.out
            have k120 := bs1 120 wo
            have h120 := conv1 120 wo
            clear hDo hZ hZS hZL hZR
            go_wp2_with (first
              | (go_at_call 56
                 refine HBR.out.mono ?_
                 rintro e wQ ⟨rfl, rfl⟩)
              | (go_at_call 53
                 refine HZS.out.mono ?_
                 rintro e wQ ⟨rfl, rfl⟩)
              | simp only [h120, k120, build73, bs62_1]
              | (go_at_call 52
                 refine HX.out.mono ?_
                 rintro e wQ ⟨rfl, hbQ⟩)
              | fail)
            go_ret
            exact ⟨rfl, HWD.out.trans (hbQ.mono HWD.out.size)⟩
    · rw [if_neg hz1] at hD11
      have hne1 : ((cd1 : Int) == 0) = false := by rw [beq_eq_false_iff_ne]; exact hz1
      have HBR := Lib.hid (broken_any hD11)
      have HWP := Lib.hid (HW1.out.trans (hD11.bel.mono HW1.out.size))
      clear hD11 hI11 hF11 hS11
      go_wp2_with (first
        | (go_at_call 56
           refine HBR.out.mono ?_
           rintro e wQ ⟨rfl, rfl⟩)
        | fail)
      go_ret
      exact ⟨rfl, HWP.out⟩
  · have hne0 : ((cd0 : Int) == 0) = false := by rw [beq_eq_false_iff_ne]; exact hz0
    have HE : Hid (L1 = L0) := Lib.hid (by rw [HL1E.out]; unfold writeR; rw [if_neg (by rw [← HCD0.out]; exact hz0)])
    go_enter Try.func16, Try.ntmps16
    go_wp2_with (first
      | (go_at_call 44
         refine (lives_any _).mono ?_
         rintro e w1 ⟨rfl, hb1⟩
         have HW1 := Lib.hid (HBA.out.trans (hb1.mono HBA.out.size))
         clear hb1)
      | (go_at_call 50
         refine (HN.out _).mono ?_
         rintro e w2 ⟨d, g, vs0, rfl, hD2⟩
         have HD2 := Lib.hid hD2
         have HW2 := Lib.hid (HW1.out.trans (hD2.bel.mono HW1.out.size))
         clear hD2)
      | (go_at_call 51
         refine (HF0.out _ HW2.out).mono ?_
         rintro e w3 ⟨Aa, na, ca, v2, rfl, HNA, hB3, hA3⟩
         have HD3 := Lib.hid (HD2.out.keep hB3)
         have HA3 := Lib.hid (hA3 (dfoot d g 4 vs0) (fun k hk => Nat.le_trans HW1.out.size (HD2.out.foot_ge k hk)) HD2.out.foot_lt)
         clear hB3 hA3)
      | (go_at_call 52
         refine (HWR.out _ _ _ _ _ _ _ _ HNA.out HD3.out HA3.out).mono ?_
         rintro e w4 ⟨rfl, vs1, l1, hD4, hI4, hF4, hS4⟩
         have HS4 := Lib.hid (fun k (hk : k < 4) => size_inv hD4 (by omega) hI4 k hk)
         have hs0 := HS4.out 0 (by omega)
         have hs1 := HS4.out 1 (by omega)
         have hs2 := HS4.out 2 (by omega)
         have hs3 := HS4.out 3 (by omega)
         rw [HE.out, L0_get, show ((recs []).length : Int) = 0 from rfl] at hs0 hs1 hs2 hs3
         have HS0 := Lib.hid hs0
         have HS1 := Lib.hid hs1
         have HS2 := Lib.hid hs2
         have HS3 := Lib.hid hs3
         have HW4 := Lib.hid (HW1.out.trans (hD4.bel.mono HW1.out.size))
         clear hD4 hI4 hF4 hS4 hs0 hs1 hs2 hs3 HS4)
      | (go_at_call 53
         refine HS0.out.mono ?_
         rintro e w5 ⟨rfl, rfl⟩
         clear HS0)
      | (go_at_call 53
         refine HS1.out.mono ?_
         rintro e w5 ⟨rfl, rfl⟩
         clear HS1)
      | (go_at_call 53
         refine HS2.out.mono ?_
         rintro e w5 ⟨rfl, rfl⟩
         clear HS2)
      | (go_at_call 53
         refine HS3.out.mono ?_
         rintro e w5 ⟨rfl, rfl⟩
         clear HS3)
      | fail)
    go_ret
    exact ⟨rfl, HW4.out⟩
end Go.Proofs.Ytnlkjhhocehhaaa.blockCuts
