/- The law BlockPlays: what a disk answers, and each room's records, in whatever row, is what the document says. For every input. -/
import Derived.Test.YtnlkjhhocehhaaaRAll
namespace Go.Proofs.Ytnlkjhhocehhaaa.blockPlays
open Go Go.RowKit Go.Proofs Go.Proofs.Ytnlkjhhocehhaaa Sha Go.BigFrame
set_option linter.unusedVariables false
abbrev st5 (z0 z1 z2 z3 : Int) (A : Option Addr) (m c : Nat) : List Value := [.int .i64 z0, .int .i64 z1, .int .i64 z2, .int .i64 z3, .slice A m c]
theorem zero82 (W : World) : (Instr.alloc 82 true (.tuple #[])).run Try.prog W = .ok (.pointer (some ⟨W.heap.size, 0, none⟩)) (W.alloc (.cells (st5 0 0 0 0 none 0 0).toArray 82)) := by kernel_rfl
theorem info82 (z0 z1 z2 z3 : Int) (A : Option Addr) (m c : Nat) : (Try.prog.info? 82).map (·.size) = some (st5 z0 z1 z2 z3 A m c).length := by show _ = some 5; kernel_rfl
theorem one_st (z0 z1 z2 z3 : Int) (A : Option Addr) (m c : Nat) : (st5 z0 z1 z2 z3 A m c).toArray.all (·.oneCell') = true := by simp [Value.oneCell']
set_option maxRecDepth 100000 in
set_option maxHeartbeats 4000000 in
theorem lists_base (v : Value) (fl : List Wr) (w0 w : World) (h : WsO w v fl) (hs : ∀ e ∈ fl, Sl w0 e.u e.x) (hl : fl.length ≤ 1000) :
    Calls Try.prog 63 #[v] w fun e w' => ∃ v', e = .returned v' ∧ LsB w.heap.size w0 w' v' (fl.map (fun e => e.x)) ∧ Below w.heap.size w w' := by
  obtain ⟨i2, hi2, hy0, hy1, hy2⟩ := info_parts info22'
  have H := Lib.hid h
  have HS := Lib.hid hs
  obtain ⟨A, c, hv, hc1, hc2⟩ := h.shape
  subst hv
  obtain ⟨m, hm⟩ : ∃ m, m = fl.length := ⟨_, rfl⟩
  rw [← hm] at hl hc1 ⊢
  have HM := Lib.hid hm
  clear h hs hm
  go_enter Try.func63, Try.ntmps63
  go_wp2_with fail
  go_loopw [3, 4] (fun c3 c4 wr => ∃ i : Nat, i ≤ m ∧ c4 = .int .i64 (i : Int) ∧ LsB w.heap.size w0 wr c3 ((fl.take i).map (fun e => e.x)) ∧ Below w.heap.size w wr) (fun _ c4 _ => m - (intOf c4).toNat)
  case atStart => exact ⟨0, by omega, rfl, LsB.nil _ _ _, Below.refl _ _⟩
  case round =>
    obtain ⟨i, him, rfl, hA, hB⟩ := hrel
    have HBL := Lib.hid hB
    have HAA := Lib.hid hA
    clear hA hB
    by_cases hlt : i < m
    · have hd : decide ((i : Int) < (m : Int)) = true := decide_eq_true (by omega)
      have hil : i < fl.length := by rw [← HM.out]; exact hlt
      obtain ⟨e, he⟩ : ∃ e, e = fl.getD i default := ⟨_, rfl⟩
      have hem : e ∈ fl := by rw [he, show fl.getD i default = fl[i] by simp [hil]]; exact List.getElem_mem hil
      have HE := Lib.hid (HS.out e hem)
      obtain ⟨g, o, c', hv', -, hg, hr, -⟩ := H.out.at_ i hil
      injection hv' with e1 _ e3
      subst e1 e3
      rw [← he] at hr
      have hr0 := rangeAt_below hr HBL.out hg
      have hcx : wr.cell? ⟨g, o + i * 2 + 1, none⟩ = some e.u := hr0 1 _ rfl
      have htk : (fl.take (i + 1)).map (fun e => e.x) = (fl.take i).map (fun e => e.x) ++ [e.x] := by
        rw [List.take_succ_eq_append_getElem hil, List.map_append, he]; simp [hil]
      have HTK := Lib.hid htk
      obtain ⟨us, hu1, hu2, hu3, hu4⟩ := HAA.out
      have hln : ((fl.take i).map (fun e => e.x)).length = i := by rw [List.length_map, List.length_take]; omega
      rw [hln] at hu1 hu2
      have HLN := Lib.hid hln
      have HU1 := Lib.hid hu1
      have HU2 := Lib.hid hu2
      have HU3 := Lib.hid hu3
      have HU4 := Lib.hid hu4
      obtain ⟨PA, pc, hue, -⟩ := HE.out
      obtain ⟨q, hq⟩ : ∃ q, q = e.x.length := ⟨_, rfl⟩
      have hue2 : e.u = .slice PA q pc := by rw [hue, hq]
      rw [hue2] at hcx
      have HUE := Lib.hid hue2
      have h0i : (0 : Int) ≤ (i : Int) := by omega
      have him2 : (i : Int) < (m : Int) := by omega
      clear he hem hr hr0 htk hu1 hu2 hu3 hu4 hue hue2 hq hln
      go_wp2_with (first
        | (refine wpList_append_o _ rfl (.tmp 11) (.tmp 17) 48 rfl 22 i2 (.slice none 0 0) 1 24 Try.underlying48 hi2 hy0 hy1 hy2 (by rfl) (by omega) u3 i us (by rfl) (Own.fr HU2.out ((Fr.refl nob wr).alloc _) (fun _ h => h.elim)) (some ⟨wr.heap.size, 0, none⟩) 1 1 [.slice PA q pc] (by rfl) (Src.of_new wr 22 #[.slice PA q pc] 1 rfl) (by simp [Value.oneCell']) (by simp only [maxLen]; omega) (by omega) ?_
           intro v9 w9 ho9 hf9 hr9
           simp only [Act.put, List.setIfInBounds_toArray, List.set_cons_zero, List.set_cons_succ])
        | fail)
      have s7 := HBL.out.size
      have r9 : ∀ k, rowOf v9 k → w.heap.size ≤ k := fun k hk => (hr9 k hk).elim (HU3.out k) (fun h => by simp only [World.size_alloc] at h; omega)
      refine ⟨⟨i + 1, by omega, by go_num, ?_, (HBL.out.alloc (HBL.out.size) _).trans (hf9.below (by simp only [World.size_alloc]; omega) (fun k hk => HU3.out k hk))⟩, by simp [intOf]; omega⟩
      rw [HTK.out]
      exact LsB.snoc (by rw [HLN.out]; exact HU1.out) (by rw [HLN.out]; exact ho9) r9 HU4.out (by rw [← HUE.out]; exact HE.out)
    · obtain rfl : i = m := by omega
      have hd : decide ((i : Int) < (i : Int)) = false := decide_eq_false (by omega)
      have htk : fl.take i = fl := List.take_of_length_le (by rw [← HM.out]; exact Nat.le_refl _)
      rw [htk] at HAA
      clear htk
      go_wp2_with fail
      go_ret
      exact ⟨_, rfl, HAA.out, HBL.out⟩
section
variable {w0 w W W' : World} {d g n rd rg : Nat} {vs rs : List Value} {l : List (List UInt8)} {L : List (List (List UInt8))} {br b2 : Bool} {F : Nat → Prop}
theorem Dk.base (h : Dk w W d g n vs l br) (hb : Below w0.heap.size w0 w) : Dk w0 W d g n vs l br :=
  ⟨h.blk, h.arr, h.n1, h.n2, h.own, h.dis, ⟨Nat.le_trans hb.size h.dnew.1, Nat.le_trans hb.size h.dnew.2⟩, fun i hi k hk => Nat.le_trans hb.size (h.rnew i hi k hk), hb.trans (h.bel.mono hb.size)⟩
theorem Inv.recs_le (h : Inv n l L br) (k : Nat) : (recs (L.getD k [])).length ≤ 60000 := by
  by_cases hk : k < n
  · obtain ⟨⟨t, h1, -⟩, -, -, h2⟩ := h.1.2.2 k hk
    rw [h1, List.length_append] at h2; omega
  · have h1 := h.1.2.1
    rw [show L.getD k [] = [] by simp [List.getD_eq_getElem?_getD, List.getElem?_eq_none (show L.length ≤ k by omega)]]
    exact Nat.zero_le _
/-- The reference's step leaves the disk. -/
theorem Dk.ref (h : Dk w W d g n vs l br) (hR : RDk (dfoot d g n vs) w W rd rg n rs L b2) (hf : Fr (r2 rd rg) W W') : Dk w W' d g n vs l br :=
  h.frS hf (fun k hk => hk.elim (fun e => by rw [e]; exact hR.nd) (fun e => by rw [e]; exact hR.ng)) (fun k hk => hR.foot k hk)
theorem Docs.fr {A : Option Addr} {m c : Nat} {fl : List Wr} (h : Docs w W A m c fl) (hf : Fr F W W') (hs : ∀ k, F k → ¬ rowOf (.slice A m c) k) : Docs w W' A m c fl :=
  ⟨Own.fr h.own hf hs, h.len, h.few, h.each, h.lens⟩
end
set_option maxRecDepth 100000 in
set_option maxHeartbeats 40000000 in
theorem walk (rooms : Int) (a1 : Option Addr) (len1 c1 : Nat) (sl : List St) (w : World) (hI : StsI w a1 len1 c1 sl) :
    Calls Try.prog 18 #[.int .i64 rooms, .slice a1 len1 c1] w fun e w' => e = .returned (.bool true) ∧ Below w.heap.size w w' := by
  obtain ⟨n, hn⟩ : ∃ n : Nat, min (max rooms 1) 8 = (n : Int) := ⟨(min (max rooms 1) 8).toNat, by omega⟩
  have hn8 : n ≤ 8 := by omega
  have HS := Lib.hid hI
  have HN := Lib.hid hn
  clear hI hn
  go_enter Try.func18, Try.ntmps18
  go_wp2_with (first
    | (go_at_call 44
       refine (lives_any _).mono ?_
       rintro e w1 ⟨rfl, hb1⟩
       have HW1 := Lib.hid hb1
       clear hb1)
    | (go_at_call 50
       refine (newD_any rooms n HN.out w1).mono ?_
       rintro e w2 ⟨rfl, hD2⟩
       have HD2 := Lib.hid (Dk.base hD2 HW1.out)
       clear hD2)
    | (go_at_call 59
       refine (rnewD_any rooms n HN.out w2).mono ?_
       rintro e w3 ⟨rfl, hR3⟩
       have HR3 := Lib.hid ((hR3 _ HD2.out.foot_lt).base HD2.out.bel)
       have HD3 := Lib.hid (HD2.out.keep (hR3 _ HD2.out.foot_lt).bel)
       clear hR3 HD2)
    | fail)
  obtain ⟨d, hd⟩ : ∃ d, d = w1.heap.size + 1 := ⟨_, rfl⟩
  obtain ⟨g, hg⟩ : ∃ g, g = w1.heap.size := ⟨_, rfl⟩
  obtain ⟨rd, hrd⟩ : ∃ d, d = w2.heap.size + 1 := ⟨_, rfl⟩
  obtain ⟨rg, hrg⟩ : ∃ g, g = w2.heap.size := ⟨_, rfl⟩
  rw [← hd, ← hg] at HD3 HR3
  rw [← hrd, ← hrg] at HR3
  rw [← hd, ← hrd]
  clear hd hg hrd hrg HW1
  go_loopw [7] (fun c7 wr => ∃ (i : Nat) (vs : List Value) (l : List (List UInt8)) (rs : List Value) (L : List (List (List UInt8))) (br : Bool), i ≤ len1 ∧ i ≤ 30 ∧ c7 = .int .i64 (i : Int) ∧ Dk w wr d g n vs l br ∧ Inv n l L br ∧ RDk (dfoot d g n vs) w wr rd rg n rs L br) (fun c7 _ => 30 - (intOf c7).toNat)
  case atStart => exact ⟨0, _, _, _, _, false, by omega, by omega, rfl, HD3.out, (Rooms.empty n).inv false, HR3.out⟩
  case round =>
    obtain ⟨i, vs, l, rs, L, br, hi1, hi2, rfl, hD, hIv, hR⟩ := hrel
    have HD := Lib.hid hD
    have HI := Lib.hid hIv
    have HR := Lib.hid hR
    clear hD hIv hR HD3 HR3
    by_cases hlt : i < len1 ∧ i < 30
    · obtain ⟨hl1, hl2⟩ := hlt
      have hd1 : decide ((i : Int) < (len1 : Int)) = true := decide_eq_true (by omega)
      have hd11 : decide (i < len1) = true := decide_eq_true hl1
      have hd2 : decide ((i : Int) < 30) = true := decide_eq_true (by omega)
      obtain ⟨hsm, -, -, hse, hsa⟩ := HS.out
      obtain ⟨ga, oa, hA, hga, hra⟩ := hsa (by omega)
      subst hA
      have hrr := rangeAt_below (hra i hl1) HD.out.bel hga
      have hil : i < sl.length := by omega
      obtain ⟨s, hs⟩ : ∃ s, s = sl.getD i default := ⟨_, rfl⟩
      have hsI : StI w s := hse s (by rw [hs, show sl.getD i default = sl[i] by simp [hil]]; exact List.getElem_mem hil)
      rw [← hs] at hrr
      obtain ⟨z0, z1, z2, z3, A, c, ls⟩ := s
      obtain ⟨m, hm⟩ : ∃ m, m = ls.length := ⟨_, rfl⟩
      unfold StI at hsI
      unfold stC at hrr
      simp only at hsI hrr
      rw [← hm] at hsI hrr
      have HWI := Lib.hid hsI
      have HRR : Hid (wr.rangeAt ga (oa + i * 5) (st5 z0 z1 z2 z3 A m c)) := Lib.hid hrr
      have hgar : ga < wr.heap.size := Nat.lt_of_lt_of_le hga HD.out.bel.size
      obtain ⟨fl, hfl⟩ : ∃ fl, fl = fewL ls := ⟨_, rfl⟩
      have HFL : Hid (fl.length ≤ 20 ∧ ∀ e ∈ fl, e.x.length ≤ 10000) := Lib.hid (by rw [hfl]; exact few_len ls)
      have HFE : Hid (∀ e ∈ fl, Sl w e.u e.x) := Lib.hid (by rw [hfl]; exact few_each HWI.out)
      have HFW : Hid (∀ W, Below w.heap.size w W → Calls Try.prog 51 #[.slice A m c] W fun e W' => ∃ A1 n1 c1 A2 c2, e = .returned (.tuple #[.slice A1 n1 c1, .slice A2 n1 c2]) ∧ Hid (n1 = fl.length) ∧ Below W.heap.size W W' ∧ (∀ F : Nat → Prop, (∀ k, F k → w.heap.size ≤ k) → (∀ k, F k → k < W.heap.size) → WsA W' F A1 n1 c1 fl) ∧ WsO W' (.slice A1 n1 c1) fl ∧ Own W' 118 2 (.slice A2 n1 c2) n1 (wsC fl) ∧ (∀ k, rowOf (.slice A1 n1 c1) k → W.heap.size ≤ k) ∧ (∀ k, rowOf (.slice A2 n1 c2) k → W.heap.size ≤ k)) := Lib.hid (fun W hW => (few_step HWI.out hW).mono (by
        rintro e W' ⟨A1, n1, c1, A2, c2, h1, h2, h3, h4, h5, h6, h7, h8⟩
        rw [← hfl] at h2 h4 h5 h6
        exact ⟨A1, n1, c1, A2, c2, h1, Lib.hid h2, h3, h4, h5, h6, h7, h8⟩))
      obtain ⟨r, hr4, hk1, -⟩ := rem_n 4 (by omega) z0
      have HK : Hid (kindI z0 = 0 ∨ kindI z0 = 1 ∨ kindI z0 = 2 ∨ kindI z0 = 3) := Lib.hid (by unfold kindI; omega)
      have h0i : (0 : Int) ≤ (i : Int) := by omega
      have hii : (i : Int) < (len1 : Int) := by omega
      clear hsm hse hsa hra hrr hil hs hsI hm hfl hr4 hk1 hga
      obtain ⟨wo, rfl⟩ : ∃ wo : World, wo = wr := ⟨_, rfl⟩
      go_wp2_with (first
        | (with_reducible refine wpList_load_mid rfl 82 (.tmp 32) rfl ga (oa + i * 5) (by with_unfolding_all rfl) (st5 z0 z1 z2 z3 A m c) _ HRR.out Try.underlying82 rfl (info82 z0 z1 z2 z3 A m c) ?_)
        | (with_reducible refine wpList_alloc_run rfl 82 rfl (st5 0 0 0 0 none 0 0).toArray zero82 ?_)
        | (refine wpList_store_blk rfl 82 (.tmp 8) (.tmp 33) rfl wo.heap.size 82 (st5 0 0 0 0 none 0 0).toArray (st5 z0 z1 z2 z3 A m c).toArray (by rfl) (by rfl) (Blk.new wo 82 _) rfl (info82 z0 z1 z2 z3 A m c) (one_st z0 z1 z2 z3 A m c) ?_
           intro w4 hb4 hf4
           have hF4 : Fr nob wo w4 := ((Fr.refl nob wo).alloc _).then hf4 (fun i hi => Or.inr (by unfold one at hi; omega))
           have h44 : w4.cell? ⟨wo.heap.size, 4, none⟩ = some (.slice A m c) := hb4.cell 4
           have h4l : wo.heap.size < w4.heap.size := hb4.lt
           have HD4 := Lib.hid (HD.out.keep hF4.below_nob)
           have HR4 := Lib.hid (HR.out.keep hF4.below_nob)
           have HB4 := Lib.hid hb4
           have HGW : Hid (∀ k, dfoot d g n vs k → k < wo.heap.size) := Lib.hid HD.out.foot_lt
           clear hb4 hf4 hF4 HD HR
           simp only [Act.put, List.setIfInBounds_toArray, List.set_cons_zero, List.set_cons_succ])
        | (go_at_call 51
           refine (HFW.out _ HD4.out.bel).mono ?_
           rintro e w5 ⟨A1, n1, c1', A2, c2, rfl, HN1, hb5, hA5, hO5, hDO5, hr51, hr52⟩
           have HD5 := Lib.hid (HD4.out.keep hb5)
           have HR5 := Lib.hid (HR4.out.keep hb5)
           have HB5 := Lib.hid (HB4.out.below hb5 HB4.out.lt)
           have HA5 := Lib.hid (hA5 (dfoot d g n vs) HD4.out.foot_ge HD4.out.foot_lt)
           have HO5 := Lib.hid hO5
           have HDO5 := Lib.hid hDO5
           have HR51 : Hid (∀ k, dfoot d g n vs k → ¬ rowOf (.slice A1 n1 c1') k) := Lib.hid (fun k hk hk2 => by have := hr51 k hk2; have := HD4.out.foot_lt k hk; omega)
           have HR52 : Hid (∀ k, dfoot d g n vs k → ¬ rowOf (.slice A2 n1 c2) k) := Lib.hid (fun k hk hk2 => by have := hr52 k hk2; have := HD4.out.foot_lt k hk; omega)
           clear hb5 hA5 hO5 hDO5 hr51 hr52 HD4 HR4 HB4 h44 h4l HFW)
        | (refine wpList_load_blk rfl 82 (.tmp 8) rfl wo.heap.size 82 (st5 z0 z1 z2 z3 A m c).toArray _ (by with_unfolding_all rfl) HB5.out Try.underlying82 rfl (info82 z0 z1 z2 z3 A m c) ?_)
        | fail)
      refine (kind_any z0 z1 z2 z3 (.slice A m c) w5).mono ?_
      rintro e w6 ⟨rfl, hb6⟩
      have HD6 := Lib.hid (HD5.out.keep hb6)
      have HR6 := Lib.hid (HR5.out.keep hb6)
      have hB6 := HB5.out.below hb6 HB5.out.lt
      have HA6 := Lib.hid (HA5.out.fr (Fr.of_below hb6 _))
      have HO6 : Hid (WsO w6 (.slice A1 n1 c1') fl) := Lib.hid (Own.fr HO5.out (Fr.of_below hb6 nob) (fun _ h => h.elim))
      have HDO6 : Hid (Docs w w6 A2 n1 c2 fl) := Lib.hid ⟨Own.fr HDO5.out (Fr.of_below hb6 nob) (fun _ h => h.elim), HN1.out, by rw [HN1.out]; exact HFL.out.1, HFE.out, HFL.out.2⟩
      obtain ⟨go, hgo⟩ : ∃ go, go = wo.heap.size := ⟨_, rfl⟩
      rw [← hgo] at hB6 HGW ⊢
      have HGO : Hid (¬ dfoot d g n vs go) := Lib.hid (fun hh => by have := HGW.out go hh; omega)
      have HGR : Hid (go ≠ rd ∧ go ≠ rg) := Lib.hid ⟨hB6.ne_ HR6.out.blk (by decide), hB6.ne_ HR6.out.arr (by decide)⟩
      have HZ : Hid (∀ k, (recs (L.getD k [])).length ≤ 60000) := Lib.hid (fun k => Inv.recs_le HI.out k)
      have hc61 : w6.cell? ⟨go, 1, none⟩ = some (.int .i64 z1) := hB6.cell 1
      have hc62 : w6.cell? ⟨go, 2, none⟩ = some (.int .i64 z2) := hB6.cell 2
      have hc63 : w6.cell? ⟨go, 3, none⟩ = some (.int .i64 z3) := hB6.cell 3
      have hgo6 : go < w6.heap.size := hB6.lt
      have HB6 := Lib.hid hB6
      clear hb6 hB6 HD5 HR5 HB5 HA5 HO5 HDO5 hgo HGW HWI HRR hd1 hd11 hd2
      obtain hk | hk | hk | hk := HK.out
      · rw [hk]
        clear hk HK
        as_aux_lemma =>
          obtain ⟨cd, hcd⟩ : ∃ cd, cd = mayR br L fl := ⟨_, rfl⟩
          obtain ⟨L7, hL7⟩ : ∃ L7, L7 = writeR n L fl br := ⟨_, rfl⟩
          have HW := Lib.hid (write_inv HD6.out (by omega) HI.out A1 n1 c1' fl HA6.out (by rw [HN1.out]; exact HFL.out.1) HFL.out.2)
          rw [← hcd, ← hL7] at HW
          have HRW : Hid (∀ (vs7 : List Value) (W' : World), RDk (dfoot d g n vs7) w W' rd rg n rs L br → (∀ k, dfoot d g n vs7 k → k < W'.heap.size) → Docs w W' A2 n1 c2 fl → Calls Try.prog 61 #[dP rd, .slice A2 n1 c2] W' fun e W'' => e = .returned (.int .i64 cd) ∧ RTo (dfoot d g n vs7) w rd rg n W' L7 br W'') := Lib.hid (fun vs7 W' h1 h2 h3 => by rw [hcd, hL7]; exact rwrite_any h1 h2 (by omega) h3 HZ.out)
          clear hcd hL7
          go_wp2_with (first
            | (go_at_call 52
               refine HW.out.mono ?_
               rintro e w7 ⟨rfl, vs7, l7, hD7, hI7, hF7, hS7⟩
               have HD7 := Lib.hid hD7
               have HIZ := Lib.hid hI7
               have HR7 := Lib.hid (HR6.out.step hF7 hS7 HD6.out.foot_ge)
               have HDO7 := Lib.hid (Docs.fr HDO6.out hF7 HR52.out)
               clear hD7 hI7 hF7 hS7)
            | (go_at_call 61
               refine (HRW.out vs7 w7 HR7.out HD7.out.foot_lt HDO7.out).mono ?_
               rintro e w8 ⟨rfl, rs8, hR8, hF8⟩
               have HDZ := Lib.hid (Dk.ref HD7.out HR7.out hF8)
               have HRZ := Lib.hid hR8
               clear hR8 hF8 HD7 HR7 HDO7)
            | fail)
          clear hc61 hc62 hc63 hgo6 HD6 HR6 HA6 HO6 HDO6 HGO HGR HB6 HW HRW HR51 HR52
          have hcb : w8.cell? ⟨rd, 1, none⟩ = some (.bool br) := HRZ.out.blk.cell 1
          have hcl : w8.cell? ⟨rd, 0, none⟩ = some (.slice (some ⟨rg, 0, none⟩) n n) := HRZ.out.blk.cell 0
          have hbA : Below w8.heap.size w8 w8.drew := (Below.refl w8.heap.size w8).drew
          have HDA := Lib.hid (HDZ.out.keep hbA)
          have HRA := Lib.hid (HRZ.out.keep hbA)
          have hcbA : w8.drew.cell? ⟨rd, 1, none⟩ = some (.bool br) := hcb
          have hclA : w8.drew.cell? ⟨rd, 0, none⟩ = some (.slice (some ⟨rg, 0, none⟩) n n) := hcl
          have hrl : rd < w8.heap.size := HRZ.out.blk.lt
          have hnb : (br != br) = false := by simp
          have hnn : ((n : Int) != (n : Int)) = false := by simp
          refine wp_region_grow 22 [([0, 1, 2, 3, 4, 6, 7, 8, 9], 5), ([10, 11, 12, 13, 15, 16, 17, 18, 19], 14)] [20, 21] (by kernel_rfl) (by kernel_rfl) ?_
          obtain ⟨Bd, hBd⟩ : ∃ Bd, Bd = w8.heap.size := ⟨_, rfl⟩
          have hAB : w8.drew.heap.size = Bd := hBd.symm
          obtain ⟨wA, hwA⟩ : ∃ wA, wA = w8.drew := ⟨_, rfl⟩
          rw [← hwA] at HDA HRA hcbA hclA hAB ⊢
          rw [← hBd] at hrl ⊢
          have hrlA : rd < wA.heap.size := by omega
          clear hwA hBd hbA hcb hcl HDZ HRZ
          try simp only [Act.put, List.setIfInBounds_toArray, List.set_cons_zero, List.set_cons_succ]
          refine wpSegs_cons rfl (List.getElem?_toArray ..) ?_
          simp only [pick, List.filterMap_cons, List.filterMap_nil, List.getElem?_toArray, List.getElem?_cons_succ, List.getElem?_cons_zero]
          show wpQuiet _ _ _ _ [_, _, _, _, _, _, _, _, _] _
          repeat (go_big_quiet_step (fail))
          refine wpQuiet_nil ?_
          rw [if_pos (by rfl)]
          intro K hK
          go_simp
          go_at_call 56
          refine (broken_any HDA.out).mono ?_
          rintro en wB ⟨rfl, rfl⟩
          refine hK Bd _ _ (Nat.le_refl _) (fun _ => Fr.refl _ _) ?_
          clear hK K
          try simp only [Act.put, List.setIfInBounds_toArray, List.set_cons_zero, List.set_cons_succ]
          refine wpSegs_cons rfl (List.getElem?_toArray ..) ?_
          simp only [pick, List.filterMap_cons, List.filterMap_nil, List.getElem?_toArray, List.getElem?_cons_succ, List.getElem?_cons_zero]
          show wpQuiet _ _ _ _ [_, _, _, _, _, _, _, _, _] _
          repeat (go_big_quiet_step (fail))
          refine wpQuiet_nil ?_
          rw [if_pos (by rfl)]
          intro K hK
          go_simp
          go_at_call 65
          refine (rooms_any HDA.out).mono ?_
          rintro en wB ⟨rfl, rfl⟩
          refine hK Bd _ _ (Nat.le_refl _) (fun _ => Fr.refl _ _) ?_
          clear hK K
          try simp only [Act.put, List.setIfInBounds_toArray, List.set_cons_zero, List.set_cons_succ]
          refine wpSegs_nil rfl ?_
          simp only [pick, List.filterMap_cons, List.filterMap_nil, List.getElem?_toArray, List.getElem?_cons_succ, List.getElem?_cons_zero]
          show wpQuiet _ _ _ _ [_, _] _
          repeat (go_big_quiet_step (fail))
          refine wpQuiet_nil ?_
          refine NoPan.normal ?_
          try simp only [Act.put, List.setIfInBounds_toArray, List.set_cons_zero, List.set_cons_succ]
          go_wp2_with fail
          clear hcbA hclA hrlA hAB hrl
          go_loopw [13] (fun c13 wx => ∃ k : Nat, k ≤ n ∧ c13 = .int .i64 (k : Int) ∧ Below wA.heap.size wA wx) (fun c13 _ => n - (intOf c13).toNat)
          case atStart => exact ⟨0, by omega, rfl, Below.refl _ _⟩
          case round =>
            obtain ⟨k, hk, rfl, hBx⟩ := hrel
            have HBX := Lib.hid hBx
            have HDX := Lib.hid (HDA.out.keep hBx)
            have HRX := Lib.hid (HRA.out.keep hBx)
            have hcbX : wr.cell? ⟨rd, 1, none⟩ = some (.bool br) := HRX.out.blk.cell 1
            have hclX : wr.cell? ⟨rd, 0, none⟩ = some (.slice (some ⟨rg, 0, none⟩) n n) := HRX.out.blk.cell 0
            have hrlX : rd < wr.heap.size := HRX.out.blk.lt
            have hglX : rg < wr.heap.size := HRX.out.arr.lt
            clear hBx
            by_cases hkn : k < n
            · have hdk : decide ((k : Int) < (n : Int)) = true := decide_eq_true (by omega)
              have hck := HRX.out.cell k hkn
              have hrow := HRX.out.rows k hkn
              obtain ⟨Ax, cx, hvx, -, -⟩ := hrow.ls.shape
              obtain ⟨nx, hnx⟩ : ∃ nx, nx = (L7.getD k []).length := ⟨_, rfl⟩
              rw [hvx, ← hnx] at hck
              rw [hvx, ← hnx] at hrow
              have HLEN : Hid ((L7.getD k []).length ≤ 1000000) := Lib.hid (HIZ.out.1.2.2 k hkn).2.2.1
              have HROW := Lib.hid hrow.ls
              have HRD : Hid (∀ W, Below wr.heap.size wr W → Calls Try.prog 54 #[dP d, .int .i64 (k : Int)] W fun e W' => ∃ A1 n1 c1, e = .returned (.slice A1 n1 c1) ∧ Ls W' (.slice A1 n1 c1) (L7.getD k []) ∧ Below W.heap.size W W') := Lib.hid (fun W hW => (read_inv (HDX.out.keep hW) (by omega) HIZ.out k hkn).mono (by
                rintro e W' ⟨A1, n1, c1, h1, h2, h3⟩
                exact ⟨A1, n1, c1, h1, h2.ls, h3⟩))
              have HSM : Hid (∀ W A1 n1 c1, Below wr.heap.size wr W → Ls W (.slice A1 n1 c1) (L7.getD k []) → Calls Try.prog 47 #[.slice A1 n1 c1, .slice Ax nx cx] W fun e W' => e = .returned (.bool true) ∧ Below W.heap.size W W') := Lib.hid (fun W A1 n1 c1 hW h1 => same_any (L7.getD k []) _ _ W h1 (HROW.out.keep hW) HLEN.out)
              have hk0 : (0 : Int) ≤ (k : Int) := by omega
              have hkni : (k : Int) < (n : Int) := by omega
              clear hvx hnx hrow
              cases br with
              | false =>
                obtain ⟨Z, hZ⟩ : ∃ Z, Z = (recs (L7.getD k [])).length := ⟨_, rfl⟩
                have HSZ : Hid (∀ W, Below wr.heap.size wr W → Calls Try.prog 53 #[dP d, .int .i64 (k : Int)] W fun e W' => e = .returned (.int .i64 (Z : Int)) ∧ W = W') := Lib.hid (fun W hW => by rw [hZ]; exact size_inv (HDX.out.keep hW) (by omega) HIZ.out k hkn)
                have HRS : Hid (∀ W, Below wr.heap.size wr W → Calls Try.prog 66 #[dP rd, .int .i64 (k : Int)] W fun e W' => e = .returned (.int .i64 (Z : Int)) ∧ W = W') := Lib.hid (fun W hW => by rw [hZ]; exact rsize_any (HRX.out.keep hW) (by omega) k hkn (by have := Inv.recs_le HIZ.out k; omega))
                have hzz : ((Z : Int) != (Z : Int)) = false := by simp
                clear hZ
                have hbR : Below wr.heap.size wr wr.drew := (Below.refl wr.heap.size wr).drew
                have hcbR : wr.drew.cell? ⟨rd, 1, none⟩ = some (.bool false) := hcbX
                have hclR : wr.drew.cell? ⟨rd, 0, none⟩ = some (.slice (some ⟨rg, 0, none⟩) n n) := hclX
                have hckR : wr.drew.cell? ⟨rg, k, none⟩ = some (.slice Ax nx cx) := hck
                go_wp2_with fail
                refine wp_region_grow 28 [([0, 1, 3, 4, 5, 6, 7, 8, 9], 2), ([], 10), ([11, 12, 13, 14, 15, 16, 17, 18, 19, 20, 22, 23], 21), ([], 24)] [25, 26, 27] (by kernel_rfl) (by kernel_rfl) ?_
                obtain ⟨Be, hBe⟩ : ∃ Be, Be = wr.heap.size := ⟨_, rfl⟩
                have hRB : wr.drew.heap.size = Be := hBe.symm
                obtain ⟨wR, hwR⟩ : ∃ wR, wR = wr.drew := ⟨_, rfl⟩
                rw [← hwR] at hbR hcbR hclR hckR hRB ⊢
                rw [← hBe] at hbR hrlX hglX HRD HSM HSZ HRS ⊢
                have HBR := Lib.hid hbR
                have HBE := Lib.hid hBe
                have hrlR : rd < wR.heap.size := by omega
                have hglR : rg < wR.heap.size := by omega
                clear hwR hBe hbR hcbX hclX hck
                try simp only [Act.put, List.setIfInBounds_toArray, List.set_cons_zero, List.set_cons_succ]
                refine wpSegs_cons rfl (List.getElem?_toArray ..) ?_
                simp only [pick, List.filterMap_cons, List.filterMap_nil, List.getElem?_toArray, List.getElem?_cons_succ, List.getElem?_cons_zero]
                show wpQuiet _ _ _ _ [_, _, _, _, _, _, _, _, _] _
                repeat (go_big_quiet_step (fail))
                refine wpQuiet_nil ?_
                rw [if_pos (by rfl)]
                intro K hK
                go_simp
                go_at_call 54
                refine (HRD.out wR HBR.out).mono ?_
                rintro en wC ⟨A9, n9, c9, rfl, hL9, hbC⟩
                refine hK Be _ _ (Nat.le_refl _) (fun _ => Fr.of_below hbC _) ?_
                clear hK K
                have HBC := Lib.hid (HBR.out.trans (hbC.mono (by omega)))
                have HL9 := Lib.hid hL9
                have hcbC : wC.cell? ⟨rd, 1, none⟩ = some (.bool false) := (hbC.cell (p := ⟨rd, 1, none⟩) hrlR).trans hcbR
                have hsC : Be ≤ wC.heap.size := by have := hbC.size; omega
                clear hbC hL9 hcbR hclR hckR hrlR hglR
                try simp only [Act.put, List.setIfInBounds_toArray, List.set_cons_zero, List.set_cons_succ]
                refine wpSegs_cons rfl (List.getElem?_toArray ..) ?_
                simp only [pick, List.filterMap_cons, List.filterMap_nil, List.getElem?_toArray, List.getElem?_cons_succ, List.getElem?_cons_zero]
                refine wpQuiet_nil ?_
                rw [if_pos (by rfl)]
                intro K hK
                go_simp
                go_at_call 47
                refine (HSM.out wC A9 n9 c9 HBC.out HL9.out).mono ?_
                rintro en wD ⟨rfl, hbD⟩
                refine hK Be _ _ (Nat.le_refl _) (fun _ => Fr.of_below hbD _) ?_
                clear hK K
                have HBD := Lib.hid (HBC.out.trans (hbD.mono hsC))
                have hcbD : wD.cell? ⟨rd, 1, none⟩ = some (.bool false) := (hbD.cell (p := ⟨rd, 1, none⟩) (Nat.lt_of_lt_of_le hrlX hsC)).trans hcbC
                have hrlD : rd < wD.heap.size := by have := hbD.size; omega
                clear hbD hcbC
                try simp only [Act.put, List.setIfInBounds_toArray, List.set_cons_zero, List.set_cons_succ]
                refine wpSegs_cons rfl (List.getElem?_toArray ..) ?_
                simp only [pick, List.filterMap_cons, List.filterMap_nil, List.getElem?_toArray, List.getElem?_cons_succ, List.getElem?_cons_zero]
                show wpQuiet _ _ _ _ [_, _, _, _, _, _, _, _, _, _, _, _] _
                repeat (go_big_quiet_step (fail))
                refine wpQuiet_nil ?_
                rw [if_pos (by rfl)]
                intro K hK
                go_simp
                go_at_call 53
                refine (HSZ.out wD HBD.out).mono ?_
                rintro en wE ⟨rfl, rfl⟩
                refine hK Be _ _ (Nat.le_refl _) (fun _ => Fr.refl _ _) ?_
                clear hK K
                try simp only [Act.put, List.setIfInBounds_toArray, List.set_cons_zero, List.set_cons_succ]
                refine wpSegs_cons rfl (List.getElem?_toArray ..) ?_
                simp only [pick, List.filterMap_cons, List.filterMap_nil, List.getElem?_toArray, List.getElem?_cons_succ, List.getElem?_cons_zero]
                refine wpQuiet_nil ?_
                rw [if_pos (by rfl)]
                intro K hK
                go_simp
                go_at_call 66
                refine (HRS.out wD HBD.out).mono ?_
                rintro en wE ⟨rfl, rfl⟩
                refine hK Be _ _ (Nat.le_refl _) (fun _ => Fr.refl _ _) ?_
                clear hK K
                try simp only [Act.put, List.setIfInBounds_toArray, List.set_cons_zero, List.set_cons_succ]
                refine wpSegs_nil rfl ?_
                simp only [pick, List.filterMap_cons, List.filterMap_nil, List.getElem?_toArray, List.getElem?_cons_succ, List.getElem?_cons_zero]
                show wpQuiet _ _ _ _ [_, _, _] _
                repeat (go_big_quiet_step (fail))
                refine wpQuiet_nil ?_
                refine NoPan.normal ?_
                try simp only [Act.put, List.setIfInBounds_toArray, List.set_cons_zero, List.set_cons_succ]
                go_wp2_with fail
                go_roundw
                case rel => exact ⟨k + 1, by omega, by go_num, HBX.out.trans (HBD.out.mono (by rw [HBE.out]; exact HBX.out.size))⟩
                case measure => simp [intOf]; omega
              | true =>
                have hbR : Below wr.heap.size wr wr.drew := (Below.refl wr.heap.size wr).drew
                have hcbR : wr.drew.cell? ⟨rd, 1, none⟩ = some (.bool true) := hcbX
                have hclR : wr.drew.cell? ⟨rd, 0, none⟩ = some (.slice (some ⟨rg, 0, none⟩) n n) := hclX
                have hckR : wr.drew.cell? ⟨rg, k, none⟩ = some (.slice Ax nx cx) := hck
                go_wp2_with fail
                refine wp_region_grow 28 [([0, 1, 3, 4, 5, 6, 7, 8, 9], 2), ([], 10), ([11, 12, 13, 14, 15, 16, 17, 18, 19, 20, 22, 23], 21), ([], 24)] [25, 26, 27] (by kernel_rfl) (by kernel_rfl) ?_
                obtain ⟨Be, hBe⟩ : ∃ Be, Be = wr.heap.size := ⟨_, rfl⟩
                have hRB : wr.drew.heap.size = Be := hBe.symm
                obtain ⟨wR, hwR⟩ : ∃ wR, wR = wr.drew := ⟨_, rfl⟩
                rw [← hwR] at hbR hcbR hclR hckR hRB ⊢
                rw [← hBe] at hbR hrlX hglX HRD HSM ⊢
                have HBR := Lib.hid hbR
                have HBE := Lib.hid hBe
                have hrlR : rd < wR.heap.size := by omega
                have hglR : rg < wR.heap.size := by omega
                clear hwR hBe hbR hcbX hclX hck
                try simp only [Act.put, List.setIfInBounds_toArray, List.set_cons_zero, List.set_cons_succ]
                refine wpSegs_cons rfl (List.getElem?_toArray ..) ?_
                simp only [pick, List.filterMap_cons, List.filterMap_nil, List.getElem?_toArray, List.getElem?_cons_succ, List.getElem?_cons_zero]
                show wpQuiet _ _ _ _ [_, _, _, _, _, _, _, _, _] _
                repeat (go_big_quiet_step (fail))
                refine wpQuiet_nil ?_
                rw [if_pos (by rfl)]
                intro K hK
                go_simp
                go_at_call 54
                refine (HRD.out wR HBR.out).mono ?_
                rintro en wC ⟨A9, n9, c9, rfl, hL9, hbC⟩
                refine hK Be _ _ (Nat.le_refl _) (fun _ => Fr.of_below hbC _) ?_
                clear hK K
                have HBC := Lib.hid (HBR.out.trans (hbC.mono (by omega)))
                have HL9 := Lib.hid hL9
                have hcbC : wC.cell? ⟨rd, 1, none⟩ = some (.bool true) := (hbC.cell (p := ⟨rd, 1, none⟩) hrlR).trans hcbR
                have hsC : Be ≤ wC.heap.size := by have := hbC.size; omega
                clear hbC hL9 hcbR hclR hckR hrlR hglR
                try simp only [Act.put, List.setIfInBounds_toArray, List.set_cons_zero, List.set_cons_succ]
                refine wpSegs_cons rfl (List.getElem?_toArray ..) ?_
                simp only [pick, List.filterMap_cons, List.filterMap_nil, List.getElem?_toArray, List.getElem?_cons_succ, List.getElem?_cons_zero]
                refine wpQuiet_nil ?_
                rw [if_pos (by rfl)]
                intro K hK
                go_simp
                go_at_call 47
                refine (HSM.out wC A9 n9 c9 HBC.out HL9.out).mono ?_
                rintro en wD ⟨rfl, hbD⟩
                refine hK Be _ _ (Nat.le_refl _) (fun _ => Fr.of_below hbD _) ?_
                clear hK K
                have HBD := Lib.hid (HBC.out.trans (hbD.mono hsC))
                have hcbD : wD.cell? ⟨rd, 1, none⟩ = some (.bool true) := (hbD.cell (p := ⟨rd, 1, none⟩) (Nat.lt_of_lt_of_le hrlX hsC)).trans hcbC
                have hrlD : rd < wD.heap.size := by have := hbD.size; omega
                clear hbD hcbC
                try simp only [Act.put, List.setIfInBounds_toArray, List.set_cons_zero, List.set_cons_succ]
                refine wpSegs_cons rfl (List.getElem?_toArray ..) ?_
                simp only [pick, List.filterMap_cons, List.filterMap_nil, List.getElem?_toArray, List.getElem?_cons_succ, List.getElem?_cons_zero]
                show wpQuiet _ _ _ _ [_, _, _, _, _, _, _, _, _, _, _, _] _
                repeat (go_big_quiet_step (fail))
                refine wpQuiet_nil ?_
                rw [if_neg (by intro h; exact Bool.false_ne_true h)]
                try simp only [Act.put, List.setIfInBounds_toArray, List.set_cons_zero, List.set_cons_succ]
                refine wpSegs_cons rfl (List.getElem?_toArray ..) ?_
                simp only [pick, List.filterMap_cons, List.filterMap_nil, List.getElem?_toArray, List.getElem?_cons_succ, List.getElem?_cons_zero]
                refine wpQuiet_nil ?_
                rw [if_neg (by intro h; exact Bool.false_ne_true h)]
                try simp only [Act.put, List.setIfInBounds_toArray, List.set_cons_zero, List.set_cons_succ]
                refine wpSegs_nil rfl ?_
                simp only [pick, List.filterMap_cons, List.filterMap_nil, List.getElem?_toArray, List.getElem?_cons_succ, List.getElem?_cons_zero]
                show wpQuiet _ _ _ _ [_, _, _] _
                repeat (go_big_quiet_step (fail))
                refine wpQuiet_nil ?_
                refine NoPan.normal ?_
                try simp only [Act.put, List.setIfInBounds_toArray, List.set_cons_zero, List.set_cons_succ]
                go_wp2_with fail
                go_roundw
                case rel => exact ⟨k + 1, by omega, by go_num, HBX.out.trans (HBD.out.mono (by rw [HBE.out]; exact HBX.out.size))⟩
                case measure => simp [intOf]; omega
            · obtain rfl : k = n := by omega
              have hdk : decide ((k : Int) < (k : Int)) = false := decide_eq_false (by omega)
              go_wp2_with fail
              go_roundw
              case rel => exact ⟨i + 1, vs7, l7, rs8, L7, br, by omega, by omega, by go_num, HDX.out, HIZ.out, HRX.out⟩
              case measure => simp [intOf]; omega
      · rw [hk]
        clear hk HK
        as_aux_lemma =>
          obtain ⟨cd, hcd⟩ : ∃ cd, cd = mayR br L fl := ⟨_, rfl⟩
          obtain ⟨L7, hL7⟩ : ∃ L7, L7 = partR n L fl br z1 z2 z3 := ⟨_, rfl⟩
          obtain ⟨b7, hb7⟩ : ∃ b7, b7 = if cd = 0 then true else br := ⟨_, rfl⟩
          have HW := Lib.hid (part_inv HD6.out (by omega) HI.out A1 n1 c1' fl HA6.out (by rw [HN1.out]; exact HFL.out.1) HFL.out.2 z1 z2 z3)
          rw [← hcd, ← hL7, ← hb7] at HW
          have HRW : Hid (∀ (vs7 : List Value) (W' : World), RDk (dfoot d g n vs7) w W' rd rg n rs L br → (∀ k, dfoot d g n vs7 k → k < W'.heap.size) → Docs w W' A2 n1 c2 fl → Calls Try.prog 62 #[dP rd, .slice A2 n1 c2, .int .i64 z1, .int .i64 z2] W' fun e W'' => e = .returned (.int .i64 cd) ∧ RTo (dfoot d g n vs7) w rd rg n W' L7 b7 W'') := Lib.hid (fun vs7 W' h1 h2 h3 => by rw [hb7, hcd, hL7]; exact rpart_any h1 h2 (by omega) h3 HZ.out z1 z2 z3)
          clear hcd hL7 hb7
          go_wp2_with (first
            | (go_at_call 55
               refine HW.out.mono ?_
               rintro e w7 ⟨rfl, vs7, l7, hD7, hI7, hF7, hS7⟩
               have hB7 := HB6.out.fr hF7 HGO.out
               have hc71 : w7.cell? ⟨go, 1, none⟩ = some (.int .i64 z1) := hB7.cell 1
               have hc72 : w7.cell? ⟨go, 2, none⟩ = some (.int .i64 z2) := hB7.cell 2
               have hgo7 : go < w7.heap.size := hB7.lt
               have HD7 := Lib.hid hD7
               have HIZ := Lib.hid hI7
               have HR7 := Lib.hid (HR6.out.step hF7 hS7 HD6.out.foot_ge)
               have HDO7 := Lib.hid (Docs.fr HDO6.out hF7 HR52.out)
               clear hD7 hI7 hF7 hS7 hB7)
            | (go_at_call 62
               refine (HRW.out vs7 w7 HR7.out HD7.out.foot_lt HDO7.out).mono ?_
               rintro e w8 ⟨rfl, rs8, hR8, hF8⟩
               have HDZ := Lib.hid (Dk.ref HD7.out HR7.out hF8)
               have HRZ := Lib.hid hR8
               clear hR8 hF8 HD7 HR7 HDO7 hc71 hc72 hgo7)
            | fail)
          clear hc61 hc62 hc63 hgo6 HD6 HR6 HA6 HO6 HDO6 HGO HGR HB6 HW HRW HR51 HR52
          have hcb : w8.cell? ⟨rd, 1, none⟩ = some (.bool b7) := HRZ.out.blk.cell 1
          have hcl : w8.cell? ⟨rd, 0, none⟩ = some (.slice (some ⟨rg, 0, none⟩) n n) := HRZ.out.blk.cell 0
          have hbA : Below w8.heap.size w8 w8.drew := (Below.refl w8.heap.size w8).drew
          have HDA := Lib.hid (HDZ.out.keep hbA)
          have HRA := Lib.hid (HRZ.out.keep hbA)
          have hcbA : w8.drew.cell? ⟨rd, 1, none⟩ = some (.bool b7) := hcb
          have hclA : w8.drew.cell? ⟨rd, 0, none⟩ = some (.slice (some ⟨rg, 0, none⟩) n n) := hcl
          have hrl : rd < w8.heap.size := HRZ.out.blk.lt
          have hnb : (b7 != b7) = false := by simp
          have hnn : ((n : Int) != (n : Int)) = false := by simp
          refine wp_region_grow 22 [([0, 1, 2, 3, 4, 6, 7, 8, 9], 5), ([10, 11, 12, 13, 15, 16, 17, 18, 19], 14)] [20, 21] (by kernel_rfl) (by kernel_rfl) ?_
          obtain ⟨Bd, hBd⟩ : ∃ Bd, Bd = w8.heap.size := ⟨_, rfl⟩
          have hAB : w8.drew.heap.size = Bd := hBd.symm
          obtain ⟨wA, hwA⟩ : ∃ wA, wA = w8.drew := ⟨_, rfl⟩
          rw [← hwA] at HDA HRA hcbA hclA hAB ⊢
          rw [← hBd] at hrl ⊢
          have hrlA : rd < wA.heap.size := by omega
          clear hwA hBd hbA hcb hcl HDZ HRZ
          try simp only [Act.put, List.setIfInBounds_toArray, List.set_cons_zero, List.set_cons_succ]
          refine wpSegs_cons rfl (List.getElem?_toArray ..) ?_
          simp only [pick, List.filterMap_cons, List.filterMap_nil, List.getElem?_toArray, List.getElem?_cons_succ, List.getElem?_cons_zero]
          show wpQuiet _ _ _ _ [_, _, _, _, _, _, _, _, _] _
          repeat (go_big_quiet_step (fail))
          refine wpQuiet_nil ?_
          rw [if_pos (by rfl)]
          intro K hK
          go_simp
          go_at_call 56
          refine (broken_any HDA.out).mono ?_
          rintro en wB ⟨rfl, rfl⟩
          refine hK Bd _ _ (Nat.le_refl _) (fun _ => Fr.refl _ _) ?_
          clear hK K
          try simp only [Act.put, List.setIfInBounds_toArray, List.set_cons_zero, List.set_cons_succ]
          refine wpSegs_cons rfl (List.getElem?_toArray ..) ?_
          simp only [pick, List.filterMap_cons, List.filterMap_nil, List.getElem?_toArray, List.getElem?_cons_succ, List.getElem?_cons_zero]
          show wpQuiet _ _ _ _ [_, _, _, _, _, _, _, _, _] _
          repeat (go_big_quiet_step (fail))
          refine wpQuiet_nil ?_
          rw [if_pos (by rfl)]
          intro K hK
          go_simp
          go_at_call 65
          refine (rooms_any HDA.out).mono ?_
          rintro en wB ⟨rfl, rfl⟩
          refine hK Bd _ _ (Nat.le_refl _) (fun _ => Fr.refl _ _) ?_
          clear hK K
          try simp only [Act.put, List.setIfInBounds_toArray, List.set_cons_zero, List.set_cons_succ]
          refine wpSegs_nil rfl ?_
          simp only [pick, List.filterMap_cons, List.filterMap_nil, List.getElem?_toArray, List.getElem?_cons_succ, List.getElem?_cons_zero]
          show wpQuiet _ _ _ _ [_, _] _
          repeat (go_big_quiet_step (fail))
          refine wpQuiet_nil ?_
          refine NoPan.normal ?_
          try simp only [Act.put, List.setIfInBounds_toArray, List.set_cons_zero, List.set_cons_succ]
          go_wp2_with fail
          clear hcbA hclA hrlA hAB hrl
          go_loopw [13] (fun c13 wx => ∃ k : Nat, k ≤ n ∧ c13 = .int .i64 (k : Int) ∧ Below wA.heap.size wA wx) (fun c13 _ => n - (intOf c13).toNat)
          case atStart => exact ⟨0, by omega, rfl, Below.refl _ _⟩
          case round =>
            obtain ⟨k, hk, rfl, hBx⟩ := hrel
            have HBX := Lib.hid hBx
            have HDX := Lib.hid (HDA.out.keep hBx)
            have HRX := Lib.hid (HRA.out.keep hBx)
            have hcbX : wr.cell? ⟨rd, 1, none⟩ = some (.bool b7) := HRX.out.blk.cell 1
            have hclX : wr.cell? ⟨rd, 0, none⟩ = some (.slice (some ⟨rg, 0, none⟩) n n) := HRX.out.blk.cell 0
            have hrlX : rd < wr.heap.size := HRX.out.blk.lt
            have hglX : rg < wr.heap.size := HRX.out.arr.lt
            clear hBx
            by_cases hkn : k < n
            · have hdk : decide ((k : Int) < (n : Int)) = true := decide_eq_true (by omega)
              have hck := HRX.out.cell k hkn
              have hrow := HRX.out.rows k hkn
              obtain ⟨Ax, cx, hvx, -, -⟩ := hrow.ls.shape
              obtain ⟨nx, hnx⟩ : ∃ nx, nx = (L7.getD k []).length := ⟨_, rfl⟩
              rw [hvx, ← hnx] at hck
              rw [hvx, ← hnx] at hrow
              have HLEN : Hid ((L7.getD k []).length ≤ 1000000) := Lib.hid (HIZ.out.1.2.2 k hkn).2.2.1
              have HROW := Lib.hid hrow.ls
              have HRD : Hid (∀ W, Below wr.heap.size wr W → Calls Try.prog 54 #[dP d, .int .i64 (k : Int)] W fun e W' => ∃ A1 n1 c1, e = .returned (.slice A1 n1 c1) ∧ Ls W' (.slice A1 n1 c1) (L7.getD k []) ∧ Below W.heap.size W W') := Lib.hid (fun W hW => (read_inv (HDX.out.keep hW) (by omega) HIZ.out k hkn).mono (by
                rintro e W' ⟨A1, n1, c1, h1, h2, h3⟩
                exact ⟨A1, n1, c1, h1, h2.ls, h3⟩))
              have HSM : Hid (∀ W A1 n1 c1, Below wr.heap.size wr W → Ls W (.slice A1 n1 c1) (L7.getD k []) → Calls Try.prog 47 #[.slice A1 n1 c1, .slice Ax nx cx] W fun e W' => e = .returned (.bool true) ∧ Below W.heap.size W W') := Lib.hid (fun W A1 n1 c1 hW h1 => same_any (L7.getD k []) _ _ W h1 (HROW.out.keep hW) HLEN.out)
              have hk0 : (0 : Int) ≤ (k : Int) := by omega
              have hkni : (k : Int) < (n : Int) := by omega
              clear hvx hnx hrow
              cases b7 with
              | false =>
                obtain ⟨Z, hZ⟩ : ∃ Z, Z = (recs (L7.getD k [])).length := ⟨_, rfl⟩
                have HSZ : Hid (∀ W, Below wr.heap.size wr W → Calls Try.prog 53 #[dP d, .int .i64 (k : Int)] W fun e W' => e = .returned (.int .i64 (Z : Int)) ∧ W = W') := Lib.hid (fun W hW => by rw [hZ]; exact size_inv (HDX.out.keep hW) (by omega) HIZ.out k hkn)
                have HRS : Hid (∀ W, Below wr.heap.size wr W → Calls Try.prog 66 #[dP rd, .int .i64 (k : Int)] W fun e W' => e = .returned (.int .i64 (Z : Int)) ∧ W = W') := Lib.hid (fun W hW => by rw [hZ]; exact rsize_any (HRX.out.keep hW) (by omega) k hkn (by have := Inv.recs_le HIZ.out k; omega))
                have hzz : ((Z : Int) != (Z : Int)) = false := by simp
                clear hZ
                have hbR : Below wr.heap.size wr wr.drew := (Below.refl wr.heap.size wr).drew
                have hcbR : wr.drew.cell? ⟨rd, 1, none⟩ = some (.bool false) := hcbX
                have hclR : wr.drew.cell? ⟨rd, 0, none⟩ = some (.slice (some ⟨rg, 0, none⟩) n n) := hclX
                have hckR : wr.drew.cell? ⟨rg, k, none⟩ = some (.slice Ax nx cx) := hck
                go_wp2_with fail
                refine wp_region_grow 28 [([0, 1, 3, 4, 5, 6, 7, 8, 9], 2), ([], 10), ([11, 12, 13, 14, 15, 16, 17, 18, 19, 20, 22, 23], 21), ([], 24)] [25, 26, 27] (by kernel_rfl) (by kernel_rfl) ?_
                obtain ⟨Be, hBe⟩ : ∃ Be, Be = wr.heap.size := ⟨_, rfl⟩
                have hRB : wr.drew.heap.size = Be := hBe.symm
                obtain ⟨wR, hwR⟩ : ∃ wR, wR = wr.drew := ⟨_, rfl⟩
                rw [← hwR] at hbR hcbR hclR hckR hRB ⊢
                rw [← hBe] at hbR hrlX hglX HRD HSM HSZ HRS ⊢
                have HBR := Lib.hid hbR
                have HBE := Lib.hid hBe
                have hrlR : rd < wR.heap.size := by omega
                have hglR : rg < wR.heap.size := by omega
                clear hwR hBe hbR hcbX hclX hck
                try simp only [Act.put, List.setIfInBounds_toArray, List.set_cons_zero, List.set_cons_succ]
                refine wpSegs_cons rfl (List.getElem?_toArray ..) ?_
                simp only [pick, List.filterMap_cons, List.filterMap_nil, List.getElem?_toArray, List.getElem?_cons_succ, List.getElem?_cons_zero]
                show wpQuiet _ _ _ _ [_, _, _, _, _, _, _, _, _] _
                repeat (go_big_quiet_step (fail))
                refine wpQuiet_nil ?_
                rw [if_pos (by rfl)]
                intro K hK
                go_simp
                go_at_call 54
                refine (HRD.out wR HBR.out).mono ?_
                rintro en wC ⟨A9, n9, c9, rfl, hL9, hbC⟩
                refine hK Be _ _ (Nat.le_refl _) (fun _ => Fr.of_below hbC _) ?_
                clear hK K
                have HBC := Lib.hid (HBR.out.trans (hbC.mono (by omega)))
                have HL9 := Lib.hid hL9
                have hcbC : wC.cell? ⟨rd, 1, none⟩ = some (.bool false) := (hbC.cell (p := ⟨rd, 1, none⟩) hrlR).trans hcbR
                have hsC : Be ≤ wC.heap.size := by have := hbC.size; omega
                clear hbC hL9 hcbR hclR hckR hrlR hglR
                try simp only [Act.put, List.setIfInBounds_toArray, List.set_cons_zero, List.set_cons_succ]
                refine wpSegs_cons rfl (List.getElem?_toArray ..) ?_
                simp only [pick, List.filterMap_cons, List.filterMap_nil, List.getElem?_toArray, List.getElem?_cons_succ, List.getElem?_cons_zero]
                refine wpQuiet_nil ?_
                rw [if_pos (by rfl)]
                intro K hK
                go_simp
                go_at_call 47
                refine (HSM.out wC A9 n9 c9 HBC.out HL9.out).mono ?_
                rintro en wD ⟨rfl, hbD⟩
                refine hK Be _ _ (Nat.le_refl _) (fun _ => Fr.of_below hbD _) ?_
                clear hK K
                have HBD := Lib.hid (HBC.out.trans (hbD.mono hsC))
                have hcbD : wD.cell? ⟨rd, 1, none⟩ = some (.bool false) := (hbD.cell (p := ⟨rd, 1, none⟩) (Nat.lt_of_lt_of_le hrlX hsC)).trans hcbC
                have hrlD : rd < wD.heap.size := by have := hbD.size; omega
                clear hbD hcbC
                try simp only [Act.put, List.setIfInBounds_toArray, List.set_cons_zero, List.set_cons_succ]
                refine wpSegs_cons rfl (List.getElem?_toArray ..) ?_
                simp only [pick, List.filterMap_cons, List.filterMap_nil, List.getElem?_toArray, List.getElem?_cons_succ, List.getElem?_cons_zero]
                show wpQuiet _ _ _ _ [_, _, _, _, _, _, _, _, _, _, _, _] _
                repeat (go_big_quiet_step (fail))
                refine wpQuiet_nil ?_
                rw [if_pos (by rfl)]
                intro K hK
                go_simp
                go_at_call 53
                refine (HSZ.out wD HBD.out).mono ?_
                rintro en wE ⟨rfl, rfl⟩
                refine hK Be _ _ (Nat.le_refl _) (fun _ => Fr.refl _ _) ?_
                clear hK K
                try simp only [Act.put, List.setIfInBounds_toArray, List.set_cons_zero, List.set_cons_succ]
                refine wpSegs_cons rfl (List.getElem?_toArray ..) ?_
                simp only [pick, List.filterMap_cons, List.filterMap_nil, List.getElem?_toArray, List.getElem?_cons_succ, List.getElem?_cons_zero]
                refine wpQuiet_nil ?_
                rw [if_pos (by rfl)]
                intro K hK
                go_simp
                go_at_call 66
                refine (HRS.out wD HBD.out).mono ?_
                rintro en wE ⟨rfl, rfl⟩
                refine hK Be _ _ (Nat.le_refl _) (fun _ => Fr.refl _ _) ?_
                clear hK K
                try simp only [Act.put, List.setIfInBounds_toArray, List.set_cons_zero, List.set_cons_succ]
                refine wpSegs_nil rfl ?_
                simp only [pick, List.filterMap_cons, List.filterMap_nil, List.getElem?_toArray, List.getElem?_cons_succ, List.getElem?_cons_zero]
                show wpQuiet _ _ _ _ [_, _, _] _
                repeat (go_big_quiet_step (fail))
                refine wpQuiet_nil ?_
                refine NoPan.normal ?_
                try simp only [Act.put, List.setIfInBounds_toArray, List.set_cons_zero, List.set_cons_succ]
                go_wp2_with fail
                go_roundw
                case rel => exact ⟨k + 1, by omega, by go_num, HBX.out.trans (HBD.out.mono (by rw [HBE.out]; exact HBX.out.size))⟩
                case measure => simp [intOf]; omega
              | true =>
                have hbR : Below wr.heap.size wr wr.drew := (Below.refl wr.heap.size wr).drew
                have hcbR : wr.drew.cell? ⟨rd, 1, none⟩ = some (.bool true) := hcbX
                have hclR : wr.drew.cell? ⟨rd, 0, none⟩ = some (.slice (some ⟨rg, 0, none⟩) n n) := hclX
                have hckR : wr.drew.cell? ⟨rg, k, none⟩ = some (.slice Ax nx cx) := hck
                go_wp2_with fail
                refine wp_region_grow 28 [([0, 1, 3, 4, 5, 6, 7, 8, 9], 2), ([], 10), ([11, 12, 13, 14, 15, 16, 17, 18, 19, 20, 22, 23], 21), ([], 24)] [25, 26, 27] (by kernel_rfl) (by kernel_rfl) ?_
                obtain ⟨Be, hBe⟩ : ∃ Be, Be = wr.heap.size := ⟨_, rfl⟩
                have hRB : wr.drew.heap.size = Be := hBe.symm
                obtain ⟨wR, hwR⟩ : ∃ wR, wR = wr.drew := ⟨_, rfl⟩
                rw [← hwR] at hbR hcbR hclR hckR hRB ⊢
                rw [← hBe] at hbR hrlX hglX HRD HSM ⊢
                have HBR := Lib.hid hbR
                have HBE := Lib.hid hBe
                have hrlR : rd < wR.heap.size := by omega
                have hglR : rg < wR.heap.size := by omega
                clear hwR hBe hbR hcbX hclX hck
                try simp only [Act.put, List.setIfInBounds_toArray, List.set_cons_zero, List.set_cons_succ]
                refine wpSegs_cons rfl (List.getElem?_toArray ..) ?_
                simp only [pick, List.filterMap_cons, List.filterMap_nil, List.getElem?_toArray, List.getElem?_cons_succ, List.getElem?_cons_zero]
                show wpQuiet _ _ _ _ [_, _, _, _, _, _, _, _, _] _
                repeat (go_big_quiet_step (fail))
                refine wpQuiet_nil ?_
                rw [if_pos (by rfl)]
                intro K hK
                go_simp
                go_at_call 54
                refine (HRD.out wR HBR.out).mono ?_
                rintro en wC ⟨A9, n9, c9, rfl, hL9, hbC⟩
                refine hK Be _ _ (Nat.le_refl _) (fun _ => Fr.of_below hbC _) ?_
                clear hK K
                have HBC := Lib.hid (HBR.out.trans (hbC.mono (by omega)))
                have HL9 := Lib.hid hL9
                have hcbC : wC.cell? ⟨rd, 1, none⟩ = some (.bool true) := (hbC.cell (p := ⟨rd, 1, none⟩) hrlR).trans hcbR
                have hsC : Be ≤ wC.heap.size := by have := hbC.size; omega
                clear hbC hL9 hcbR hclR hckR hrlR hglR
                try simp only [Act.put, List.setIfInBounds_toArray, List.set_cons_zero, List.set_cons_succ]
                refine wpSegs_cons rfl (List.getElem?_toArray ..) ?_
                simp only [pick, List.filterMap_cons, List.filterMap_nil, List.getElem?_toArray, List.getElem?_cons_succ, List.getElem?_cons_zero]
                refine wpQuiet_nil ?_
                rw [if_pos (by rfl)]
                intro K hK
                go_simp
                go_at_call 47
                refine (HSM.out wC A9 n9 c9 HBC.out HL9.out).mono ?_
                rintro en wD ⟨rfl, hbD⟩
                refine hK Be _ _ (Nat.le_refl _) (fun _ => Fr.of_below hbD _) ?_
                clear hK K
                have HBD := Lib.hid (HBC.out.trans (hbD.mono hsC))
                have hcbD : wD.cell? ⟨rd, 1, none⟩ = some (.bool true) := (hbD.cell (p := ⟨rd, 1, none⟩) (Nat.lt_of_lt_of_le hrlX hsC)).trans hcbC
                have hrlD : rd < wD.heap.size := by have := hbD.size; omega
                clear hbD hcbC
                try simp only [Act.put, List.setIfInBounds_toArray, List.set_cons_zero, List.set_cons_succ]
                refine wpSegs_cons rfl (List.getElem?_toArray ..) ?_
                simp only [pick, List.filterMap_cons, List.filterMap_nil, List.getElem?_toArray, List.getElem?_cons_succ, List.getElem?_cons_zero]
                show wpQuiet _ _ _ _ [_, _, _, _, _, _, _, _, _, _, _, _] _
                repeat (go_big_quiet_step (fail))
                refine wpQuiet_nil ?_
                rw [if_neg (by intro h; exact Bool.false_ne_true h)]
                try simp only [Act.put, List.setIfInBounds_toArray, List.set_cons_zero, List.set_cons_succ]
                refine wpSegs_cons rfl (List.getElem?_toArray ..) ?_
                simp only [pick, List.filterMap_cons, List.filterMap_nil, List.getElem?_toArray, List.getElem?_cons_succ, List.getElem?_cons_zero]
                refine wpQuiet_nil ?_
                rw [if_neg (by intro h; exact Bool.false_ne_true h)]
                try simp only [Act.put, List.setIfInBounds_toArray, List.set_cons_zero, List.set_cons_succ]
                refine wpSegs_nil rfl ?_
                simp only [pick, List.filterMap_cons, List.filterMap_nil, List.getElem?_toArray, List.getElem?_cons_succ, List.getElem?_cons_zero]
                show wpQuiet _ _ _ _ [_, _, _] _
                repeat (go_big_quiet_step (fail))
                refine wpQuiet_nil ?_
                refine NoPan.normal ?_
                try simp only [Act.put, List.setIfInBounds_toArray, List.set_cons_zero, List.set_cons_succ]
                go_wp2_with fail
                go_roundw
                case rel => exact ⟨k + 1, by omega, by go_num, HBX.out.trans (HBD.out.mono (by rw [HBE.out]; exact HBX.out.size))⟩
                case measure => simp [intOf]; omega
            · obtain rfl : k = n := by omega
              have hdk : decide ((k : Int) < (k : Int)) = false := decide_eq_false (by omega)
              go_wp2_with fail
              go_roundw
              case rel => exact ⟨i + 1, vs7, l7, rs8, L7, b7, by omega, by omega, by go_num, HDX.out, HIZ.out, HRX.out⟩
              case measure => simp [intOf]; omega
      · rw [hk]
        clear hk HK
        as_aux_lemma =>
          have HU := Lib.hid (up_inv HD6.out (by omega) HI.out)
          go_wp2_with (first
            | (go_at_call 57
               refine HU.out.mono ?_
               rintro e w7 ⟨AU, cU, rfl, -, vs7, l7, hD7, hI7, hF7, hS7⟩
               have HD7 := Lib.hid hD7
               have HIZ := Lib.hid hI7
               have hR7 := HR6.out.step hF7 (fun k hk => .inl (hS7 k hk)) HD6.out.foot_ge
               have hcb7 : w7.cell? ⟨rd, 1, none⟩ = some (.bool br) := hR7.blk.cell 1
               have hfz7 := hR7.blk.frozen 1
               have hrl7 : rd < w7.heap.size := hR7.blk.lt
               have HR7 := Lib.hid hR7
               clear hD7 hI7 hF7 hS7 hR7)
            | fail)
          have HF8 : Hid (Fr (r2 rd rg) w7 (w7.setCell ⟨rd, 1, none⟩ (.bool false))) := Lib.hid ((Fr.refl _ w7).setCell' (.inl (.inl rfl)) _)
          have HDZ := Lib.hid (Dk.ref HD7.out HR7.out HF8.out)
          have HRZ := Lib.hid (HR7.out.break_ false)
          obtain ⟨w8, hw8⟩ : ∃ w8, w8 = w7.setCell ⟨rd, 1, none⟩ (.bool false) := ⟨_, rfl⟩
          rw [← hw8] at HDZ HRZ ⊢
          clear hw8 HF8 hcb7 hfz7 hrl7 HD7 HR7 hc61 hc62 hc63 hgo6 HD6 HR6 HA6 HO6 HDO6 HGO HGR HB6 HU HR51 HR52
          have hcb : w8.cell? ⟨rd, 1, none⟩ = some (.bool false) := HRZ.out.blk.cell 1
          have hcl : w8.cell? ⟨rd, 0, none⟩ = some (.slice (some ⟨rg, 0, none⟩) n n) := HRZ.out.blk.cell 0
          have hbA : Below w8.heap.size w8 w8.drew := (Below.refl w8.heap.size w8).drew
          have HDA := Lib.hid (HDZ.out.keep hbA)
          have HRA := Lib.hid (HRZ.out.keep hbA)
          have hcbA : w8.drew.cell? ⟨rd, 1, none⟩ = some (.bool false) := hcb
          have hclA : w8.drew.cell? ⟨rd, 0, none⟩ = some (.slice (some ⟨rg, 0, none⟩) n n) := hcl
          have hrl : rd < w8.heap.size := HRZ.out.blk.lt
          have hnb : (false != false) = false := by simp
          have hnn : ((n : Int) != (n : Int)) = false := by simp
          refine wp_region_grow 22 [([0, 1, 2, 3, 4, 6, 7, 8, 9], 5), ([10, 11, 12, 13, 15, 16, 17, 18, 19], 14)] [20, 21] (by kernel_rfl) (by kernel_rfl) ?_
          obtain ⟨Bd, hBd⟩ : ∃ Bd, Bd = w8.heap.size := ⟨_, rfl⟩
          have hAB : w8.drew.heap.size = Bd := hBd.symm
          obtain ⟨wA, hwA⟩ : ∃ wA, wA = w8.drew := ⟨_, rfl⟩
          rw [← hwA] at HDA HRA hcbA hclA hAB ⊢
          rw [← hBd] at hrl ⊢
          have hrlA : rd < wA.heap.size := by omega
          clear hwA hBd hbA hcb hcl HDZ HRZ
          try simp only [Act.put, List.setIfInBounds_toArray, List.set_cons_zero, List.set_cons_succ]
          refine wpSegs_cons rfl (List.getElem?_toArray ..) ?_
          simp only [pick, List.filterMap_cons, List.filterMap_nil, List.getElem?_toArray, List.getElem?_cons_succ, List.getElem?_cons_zero]
          show wpQuiet _ _ _ _ [_, _, _, _, _, _, _, _, _] _
          repeat (go_big_quiet_step (fail))
          refine wpQuiet_nil ?_
          rw [if_pos (by rfl)]
          intro K hK
          go_simp
          go_at_call 56
          refine (broken_any HDA.out).mono ?_
          rintro en wB ⟨rfl, rfl⟩
          refine hK Bd _ _ (Nat.le_refl _) (fun _ => Fr.refl _ _) ?_
          clear hK K
          try simp only [Act.put, List.setIfInBounds_toArray, List.set_cons_zero, List.set_cons_succ]
          refine wpSegs_cons rfl (List.getElem?_toArray ..) ?_
          simp only [pick, List.filterMap_cons, List.filterMap_nil, List.getElem?_toArray, List.getElem?_cons_succ, List.getElem?_cons_zero]
          show wpQuiet _ _ _ _ [_, _, _, _, _, _, _, _, _] _
          repeat (go_big_quiet_step (fail))
          refine wpQuiet_nil ?_
          rw [if_pos (by rfl)]
          intro K hK
          go_simp
          go_at_call 65
          refine (rooms_any HDA.out).mono ?_
          rintro en wB ⟨rfl, rfl⟩
          refine hK Bd _ _ (Nat.le_refl _) (fun _ => Fr.refl _ _) ?_
          clear hK K
          try simp only [Act.put, List.setIfInBounds_toArray, List.set_cons_zero, List.set_cons_succ]
          refine wpSegs_nil rfl ?_
          simp only [pick, List.filterMap_cons, List.filterMap_nil, List.getElem?_toArray, List.getElem?_cons_succ, List.getElem?_cons_zero]
          show wpQuiet _ _ _ _ [_, _] _
          repeat (go_big_quiet_step (fail))
          refine wpQuiet_nil ?_
          refine NoPan.normal ?_
          try simp only [Act.put, List.setIfInBounds_toArray, List.set_cons_zero, List.set_cons_succ]
          go_wp2_with fail
          clear hcbA hclA hrlA hAB hrl
          go_loopw [13] (fun c13 wx => ∃ k : Nat, k ≤ n ∧ c13 = .int .i64 (k : Int) ∧ Below wA.heap.size wA wx) (fun c13 _ => n - (intOf c13).toNat)
          case atStart => exact ⟨0, by omega, rfl, Below.refl _ _⟩
          case round =>
            obtain ⟨k, hk, rfl, hBx⟩ := hrel
            have HBX := Lib.hid hBx
            have HDX := Lib.hid (HDA.out.keep hBx)
            have HRX := Lib.hid (HRA.out.keep hBx)
            have hcbX : wr.cell? ⟨rd, 1, none⟩ = some (.bool false) := HRX.out.blk.cell 1
            have hclX : wr.cell? ⟨rd, 0, none⟩ = some (.slice (some ⟨rg, 0, none⟩) n n) := HRX.out.blk.cell 0
            have hrlX : rd < wr.heap.size := HRX.out.blk.lt
            have hglX : rg < wr.heap.size := HRX.out.arr.lt
            clear hBx
            by_cases hkn : k < n
            · have hdk : decide ((k : Int) < (n : Int)) = true := decide_eq_true (by omega)
              have hck := HRX.out.cell k hkn
              have hrow := HRX.out.rows k hkn
              obtain ⟨Ax, cx, hvx, -, -⟩ := hrow.ls.shape
              obtain ⟨nx, hnx⟩ : ∃ nx, nx = (L.getD k []).length := ⟨_, rfl⟩
              rw [hvx, ← hnx] at hck
              rw [hvx, ← hnx] at hrow
              have HLEN : Hid ((L.getD k []).length ≤ 1000000) := Lib.hid (HIZ.out.1.2.2 k hkn).2.2.1
              have HROW := Lib.hid hrow.ls
              have HRD : Hid (∀ W, Below wr.heap.size wr W → Calls Try.prog 54 #[dP d, .int .i64 (k : Int)] W fun e W' => ∃ A1 n1 c1, e = .returned (.slice A1 n1 c1) ∧ Ls W' (.slice A1 n1 c1) (L.getD k []) ∧ Below W.heap.size W W') := Lib.hid (fun W hW => (read_inv (HDX.out.keep hW) (by omega) HIZ.out k hkn).mono (by
                rintro e W' ⟨A1, n1, c1, h1, h2, h3⟩
                exact ⟨A1, n1, c1, h1, h2.ls, h3⟩))
              have HSM : Hid (∀ W A1 n1 c1, Below wr.heap.size wr W → Ls W (.slice A1 n1 c1) (L.getD k []) → Calls Try.prog 47 #[.slice A1 n1 c1, .slice Ax nx cx] W fun e W' => e = .returned (.bool true) ∧ Below W.heap.size W W') := Lib.hid (fun W A1 n1 c1 hW h1 => same_any (L.getD k []) _ _ W h1 (HROW.out.keep hW) HLEN.out)
              have hk0 : (0 : Int) ≤ (k : Int) := by omega
              have hkni : (k : Int) < (n : Int) := by omega
              clear hvx hnx hrow
              obtain ⟨Z, hZ⟩ : ∃ Z, Z = (recs (L.getD k [])).length := ⟨_, rfl⟩
              have HSZ : Hid (∀ W, Below wr.heap.size wr W → Calls Try.prog 53 #[dP d, .int .i64 (k : Int)] W fun e W' => e = .returned (.int .i64 (Z : Int)) ∧ W = W') := Lib.hid (fun W hW => by rw [hZ]; exact size_inv (HDX.out.keep hW) (by omega) HIZ.out k hkn)
              have HRS : Hid (∀ W, Below wr.heap.size wr W → Calls Try.prog 66 #[dP rd, .int .i64 (k : Int)] W fun e W' => e = .returned (.int .i64 (Z : Int)) ∧ W = W') := Lib.hid (fun W hW => by rw [hZ]; exact rsize_any (HRX.out.keep hW) (by omega) k hkn (by have := Inv.recs_le HIZ.out k; omega))
              have hzz : ((Z : Int) != (Z : Int)) = false := by simp
              clear hZ
              have hbR : Below wr.heap.size wr wr.drew := (Below.refl wr.heap.size wr).drew
              have hcbR : wr.drew.cell? ⟨rd, 1, none⟩ = some (.bool false) := hcbX
              have hclR : wr.drew.cell? ⟨rd, 0, none⟩ = some (.slice (some ⟨rg, 0, none⟩) n n) := hclX
              have hckR : wr.drew.cell? ⟨rg, k, none⟩ = some (.slice Ax nx cx) := hck
              go_wp2_with fail
              refine wp_region_grow 28 [([0, 1, 3, 4, 5, 6, 7, 8, 9], 2), ([], 10), ([11, 12, 13, 14, 15, 16, 17, 18, 19, 20, 22, 23], 21), ([], 24)] [25, 26, 27] (by kernel_rfl) (by kernel_rfl) ?_
              obtain ⟨Be, hBe⟩ : ∃ Be, Be = wr.heap.size := ⟨_, rfl⟩
              have hRB : wr.drew.heap.size = Be := hBe.symm
              obtain ⟨wR, hwR⟩ : ∃ wR, wR = wr.drew := ⟨_, rfl⟩
              rw [← hwR] at hbR hcbR hclR hckR hRB ⊢
              rw [← hBe] at hbR hrlX hglX HRD HSM HSZ HRS ⊢
              have HBR := Lib.hid hbR
              have HBE := Lib.hid hBe
              have hrlR : rd < wR.heap.size := by omega
              have hglR : rg < wR.heap.size := by omega
              clear hwR hBe hbR hcbX hclX hck
              try simp only [Act.put, List.setIfInBounds_toArray, List.set_cons_zero, List.set_cons_succ]
              refine wpSegs_cons rfl (List.getElem?_toArray ..) ?_
              simp only [pick, List.filterMap_cons, List.filterMap_nil, List.getElem?_toArray, List.getElem?_cons_succ, List.getElem?_cons_zero]
              show wpQuiet _ _ _ _ [_, _, _, _, _, _, _, _, _] _
              repeat (go_big_quiet_step (fail))
              refine wpQuiet_nil ?_
              rw [if_pos (by rfl)]
              intro K hK
              go_simp
              go_at_call 54
              refine (HRD.out wR HBR.out).mono ?_
              rintro en wC ⟨A9, n9, c9, rfl, hL9, hbC⟩
              refine hK Be _ _ (Nat.le_refl _) (fun _ => Fr.of_below hbC _) ?_
              clear hK K
              have HBC := Lib.hid (HBR.out.trans (hbC.mono (by omega)))
              have HL9 := Lib.hid hL9
              have hcbC : wC.cell? ⟨rd, 1, none⟩ = some (.bool false) := (hbC.cell (p := ⟨rd, 1, none⟩) hrlR).trans hcbR
              have hsC : Be ≤ wC.heap.size := by have := hbC.size; omega
              clear hbC hL9 hcbR hclR hckR hrlR hglR
              try simp only [Act.put, List.setIfInBounds_toArray, List.set_cons_zero, List.set_cons_succ]
              refine wpSegs_cons rfl (List.getElem?_toArray ..) ?_
              simp only [pick, List.filterMap_cons, List.filterMap_nil, List.getElem?_toArray, List.getElem?_cons_succ, List.getElem?_cons_zero]
              refine wpQuiet_nil ?_
              rw [if_pos (by rfl)]
              intro K hK
              go_simp
              go_at_call 47
              refine (HSM.out wC A9 n9 c9 HBC.out HL9.out).mono ?_
              rintro en wD ⟨rfl, hbD⟩
              refine hK Be _ _ (Nat.le_refl _) (fun _ => Fr.of_below hbD _) ?_
              clear hK K
              have HBD := Lib.hid (HBC.out.trans (hbD.mono hsC))
              have hcbD : wD.cell? ⟨rd, 1, none⟩ = some (.bool false) := (hbD.cell (p := ⟨rd, 1, none⟩) (Nat.lt_of_lt_of_le hrlX hsC)).trans hcbC
              have hrlD : rd < wD.heap.size := by have := hbD.size; omega
              clear hbD hcbC
              try simp only [Act.put, List.setIfInBounds_toArray, List.set_cons_zero, List.set_cons_succ]
              refine wpSegs_cons rfl (List.getElem?_toArray ..) ?_
              simp only [pick, List.filterMap_cons, List.filterMap_nil, List.getElem?_toArray, List.getElem?_cons_succ, List.getElem?_cons_zero]
              show wpQuiet _ _ _ _ [_, _, _, _, _, _, _, _, _, _, _, _] _
              repeat (go_big_quiet_step (fail))
              refine wpQuiet_nil ?_
              rw [if_pos (by rfl)]
              intro K hK
              go_simp
              go_at_call 53
              refine (HSZ.out wD HBD.out).mono ?_
              rintro en wE ⟨rfl, rfl⟩
              refine hK Be _ _ (Nat.le_refl _) (fun _ => Fr.refl _ _) ?_
              clear hK K
              try simp only [Act.put, List.setIfInBounds_toArray, List.set_cons_zero, List.set_cons_succ]
              refine wpSegs_cons rfl (List.getElem?_toArray ..) ?_
              simp only [pick, List.filterMap_cons, List.filterMap_nil, List.getElem?_toArray, List.getElem?_cons_succ, List.getElem?_cons_zero]
              refine wpQuiet_nil ?_
              rw [if_pos (by rfl)]
              intro K hK
              go_simp
              go_at_call 66
              refine (HRS.out wD HBD.out).mono ?_
              rintro en wE ⟨rfl, rfl⟩
              refine hK Be _ _ (Nat.le_refl _) (fun _ => Fr.refl _ _) ?_
              clear hK K
              try simp only [Act.put, List.setIfInBounds_toArray, List.set_cons_zero, List.set_cons_succ]
              refine wpSegs_nil rfl ?_
              simp only [pick, List.filterMap_cons, List.filterMap_nil, List.getElem?_toArray, List.getElem?_cons_succ, List.getElem?_cons_zero]
              show wpQuiet _ _ _ _ [_, _, _] _
              repeat (go_big_quiet_step (fail))
              refine wpQuiet_nil ?_
              refine NoPan.normal ?_
              try simp only [Act.put, List.setIfInBounds_toArray, List.set_cons_zero, List.set_cons_succ]
              go_wp2_with fail
              go_roundw
              case rel => exact ⟨k + 1, by omega, by go_num, HBX.out.trans (HBD.out.mono (by rw [HBE.out]; exact HBX.out.size))⟩
              case measure => simp [intOf]; omega
            · obtain rfl : k = n := by omega
              have hdk : decide ((k : Int) < (k : Int)) = false := decide_eq_false (by omega)
              go_wp2_with fail
              go_roundw
              case rel => exact ⟨i + 1, vs7, l7, rs, L, false, by omega, by omega, by go_num, HDX.out, HIZ.out, HRX.out⟩
              case measure => simp [intOf]; omega
      · rw [hk]
        clear hk HK
        as_aux_lemma =>
          obtain ⟨want, hwant⟩ : ∃ want, want = fl.map (fun e => e.x) := ⟨_, rfl⟩
          have HW20 : Hid (want.length ≤ 20 ∧ ∀ x ∈ want, x.length ≤ 10000) := Lib.hid ⟨by rw [hwant, List.length_map]; exact HFL.out.1, fun x hx => by
            rw [hwant] at hx
            obtain ⟨e, he, rfl⟩ := List.mem_map.1 hx
            exact HFL.out.2 e he⟩
          have HLB : Hid (∀ W, WsO W (.slice A1 n1 c1') fl → Calls Try.prog 63 #[.slice A1 n1 c1'] W fun e w' => ∃ v', e = .returned v' ∧ LsB W.heap.size w w' v' want ∧ Below W.heap.size W w') := Lib.hid (fun W h => by rw [hwant]; exact lists_base _ fl w W h HFE.out (by have := HFL.out.1; omega))
          obtain ⟨cd, hcd⟩ : ∃ cd, cd = comD br n z1 want := ⟨_, rfl⟩
          obtain ⟨L7, hL7⟩ : ∃ L7, L7 = comR n L br z1 want := ⟨_, rfl⟩
          have HCI : Hid (∀ (W' : World) (A : Option Addr) (m c : Nat), Dk w W' d g n vs l br → Ls W' (.slice A m c) want → Calls Try.prog 58 #[dP d, .int .i64 z1, .slice A m c] W' fun e W'' => e = .returned (.int .i64 cd) ∧ Next w d g n vs W' L7 br W'') := Lib.hid (fun W' A m c h1 h2 => by rw [hcd, hL7]; exact com_inv h1 (by omega) HI.out A m c want h2 HW20.out.1 HW20.out.2 z1)
          have HRC : Hid (∀ (vs7 : List Value) (W' : World) (A : Option Addr) (m c : Nat), RDk (dfoot d g n vs7) w W' rd rg n rs L br → (∀ k, dfoot d g n vs7 k → k < W'.heap.size) → LsF (r2 rd rg) W' (.slice A m c) want → Calls Try.prog 64 #[dP rd, .int .i64 z1, .slice A m c] W' fun e W'' => e = .returned (.int .i64 cd) ∧ RTo (dfoot d g n vs7) w rd rg n W' L7 br W'') := Lib.hid (fun vs7 W' A m c h1 h2 h3 => by rw [hcd, hL7]; exact rcompact_any h1 h2 (by omega) h3 HW20.out.1 HW20.out.2 z1)
          clear hcd hL7 hwant
          have hbd : Below w6.heap.size w6 w6.drew := (Below.refl w6.heap.size w6).drew
          have HDd := Lib.hid (HD6.out.keep hbd)
          have HRd := Lib.hid (HR6.out.keep hbd)
          have HOd : Hid (WsO w6.drew (.slice A1 n1 c1') fl) := Lib.hid (Own.fr HO6.out (Fr.of_below hbd nob) (fun _ h => h.elim))
          go_wp2_with fail
          refine wp_region_late nob 4 1 1 (by kernel_rfl) (by kernel_rfl) rfl ?_
          simp only [List.take_succ_cons, List.take_zero, List.drop_succ_cons, List.drop_zero]
          repeat (go_big_quiet_step (fail))
          refine wpQuiet_nil ?_
          refine wpKeep_step rfl (fun K2 hK2 => ?_)
          go_simp
          go_at_call 63
          refine (HLB.out _ HOd.out).mono ?_
          rintro e w7 ⟨v7, rfl, hL7, hb7⟩
          have hF7 : Fr nob w6 w7 := Fr.of_below (hbd.trans (hb7.mono hbd.size)) _
          refine hK2 _ _ hF7 ?_
          clear hK2 K2
          refine wpKeep_nil ?_
          have HD7 := Lib.hid (HDd.out.keep hb7)
          have HR7 := Lib.hid (HRd.out.keep hb7)
          have HB7 := Lib.hid (HB6.out.fr hF7 (fun h => h))
          have HO7 : Hid (WsO w7 (.slice A1 n1 c1') fl) := Lib.hid (Own.fr HO6.out hF7 (fun _ h => h.elim))
          have hls7 : LsF nob w7 v7 want := hL7.far HD7.out.bel (fun _ h => h.elim) (fun _ h => h.elim)
          obtain ⟨A7, c7q, hv7, -, -⟩ := hls7.ls.shape
          obtain ⟨n7, hn7⟩ : ∃ n7, n7 = want.length := ⟨_, rfl⟩
          rw [← hn7] at hv7
          subst hv7
          have HLS7 := Lib.hid hls7.ls
          clear hL7 hb7 hF7 hbd hls7 hn7 HDd HRd HOd
          try simp only [Act.put, List.setIfInBounds_toArray, List.set_cons_zero, List.set_cons_succ]
          go_wp2_with (first
            | (go_at_call 58
               refine (HCI.out w7 A7 n7 c7q HD7.out HLS7.out).mono ?_
               rintro e w8 ⟨rfl, vs8, l8, hD8, hI8, hF8, hS8⟩
               have HD8 := Lib.hid hD8
               have HIZ := Lib.hid hI8
               have HR8 := Lib.hid (HR7.out.step hF8 hS8 HD7.out.foot_ge)
               have HB8 := Lib.hid (HB7.out.fr hF8 HGO.out)
               have HO8 : Hid (WsO w8 (.slice A1 n1 c1') fl) := Lib.hid (Own.fr HO7.out hF8 HR51.out)
               clear hD8 hI8 hF8 hS8)
            | fail)
          refine NoPan.normal ?_
          have hc81 : w8.cell? ⟨go, 1, none⟩ = some (.int .i64 z1) := HB8.out.cell 1
          have hgo8 : go < w8.heap.size := HB8.out.lt
          have hbd8 : Below w8.heap.size w8 w8.drew := (Below.refl w8.heap.size w8).drew
          have HDd := Lib.hid (HD8.out.keep hbd8)
          have HRd := Lib.hid (HR8.out.keep hbd8)
          have HOd : Hid (WsO w8.drew (.slice A1 n1 c1') fl) := Lib.hid (Own.fr HO8.out (Fr.of_below hbd8 nob) (fun _ h => h.elim))
          clear hc61 hc62 hc63 hgo6 HD6 HR6 HA6 HO6 HDO6 HLS7 HD7 HR7 HB7 HO7 HB6 HCI
          go_wp2_with fail
          refine wp_region_late nob 4 1 1 (by kernel_rfl) (by kernel_rfl) rfl ?_
          simp only [List.take_succ_cons, List.take_zero, List.drop_succ_cons, List.drop_zero]
          repeat (go_big_quiet_step (fail))
          refine wpQuiet_nil ?_
          refine wpKeep_step rfl (fun K2 hK2 => ?_)
          go_simp
          go_at_call 63
          refine (HLB.out _ HOd.out).mono ?_
          rintro e w9 ⟨v9, rfl, hL9, hb9⟩
          have hF9 : Fr nob w8 w9 := Fr.of_below (hbd8.trans (hb9.mono hbd8.size)) _
          refine hK2 _ _ hF9 ?_
          clear hK2 K2
          refine wpKeep_nil ?_
          have HD9 := Lib.hid (HDd.out.keep hb9)
          have HR9 := Lib.hid (HRd.out.keep hb9)
          have hls9 : LsF (r2 rd rg) w9 v9 want := hL9.far HD9.out.bel (fun k hk => HRd.out.foot k hk) (fun k hk => hk.elim (fun e => by rw [e]; exact HRd.out.blk.lt) (fun e => by rw [e]; exact HRd.out.arr.lt))
          obtain ⟨A9, c9q, hv9, -, -⟩ := hls9.ls.shape
          obtain ⟨n9, hn9⟩ : ∃ n9, n9 = want.length := ⟨_, rfl⟩
          rw [← hn9] at hv9
          subst hv9
          have HLS9 := Lib.hid hls9
          clear hL9 hb9 hF9 hbd8 hls9 hn9 HDd HRd HOd hc81 hgo8
          try simp only [Act.put, List.setIfInBounds_toArray, List.set_cons_zero, List.set_cons_succ]
          go_wp2_with (first
            | (go_at_call 64
               refine (HRC.out vs8 w9 A9 n9 c9q HR9.out HD9.out.foot_lt HLS9.out).mono ?_
               rintro e wX ⟨rfl, rsX, hRX, hFX⟩
               have HDZ := Lib.hid (Dk.ref HD9.out HR9.out hFX)
               have HRZ := Lib.hid hRX
               clear hRX hFX)
            | fail)
          refine NoPan.normal ?_
          clear HD8 HR8 HB8 HO8 HD9 HR9 HLS9 HRC HLB HGO HGR HR51 HR52
          go_wp2_with fail
          have hcb : wX.cell? ⟨rd, 1, none⟩ = some (.bool br) := HRZ.out.blk.cell 1
          have hcl : wX.cell? ⟨rd, 0, none⟩ = some (.slice (some ⟨rg, 0, none⟩) n n) := HRZ.out.blk.cell 0
          have hbA : Below wX.heap.size wX wX.drew := (Below.refl wX.heap.size wX).drew
          have HDA := Lib.hid (HDZ.out.keep hbA)
          have HRA := Lib.hid (HRZ.out.keep hbA)
          have hcbA : wX.drew.cell? ⟨rd, 1, none⟩ = some (.bool br) := hcb
          have hclA : wX.drew.cell? ⟨rd, 0, none⟩ = some (.slice (some ⟨rg, 0, none⟩) n n) := hcl
          have hrl : rd < wX.heap.size := HRZ.out.blk.lt
          have hnb : (br != br) = false := by simp
          have hnn : ((n : Int) != (n : Int)) = false := by simp
          refine wp_region_grow 22 [([0, 1, 2, 3, 4, 6, 7, 8, 9], 5), ([10, 11, 12, 13, 15, 16, 17, 18, 19], 14)] [20, 21] (by kernel_rfl) (by kernel_rfl) ?_
          obtain ⟨Bd, hBd⟩ : ∃ Bd, Bd = wX.heap.size := ⟨_, rfl⟩
          have hAB : wX.drew.heap.size = Bd := hBd.symm
          obtain ⟨wA, hwA⟩ : ∃ wA, wA = wX.drew := ⟨_, rfl⟩
          rw [← hwA] at HDA HRA hcbA hclA hAB ⊢
          rw [← hBd] at hrl ⊢
          have hrlA : rd < wA.heap.size := by omega
          clear hwA hBd hbA hcb hcl HDZ HRZ
          try simp only [Act.put, List.setIfInBounds_toArray, List.set_cons_zero, List.set_cons_succ]
          refine wpSegs_cons rfl (List.getElem?_toArray ..) ?_
          simp only [pick, List.filterMap_cons, List.filterMap_nil, List.getElem?_toArray, List.getElem?_cons_succ, List.getElem?_cons_zero]
          show wpQuiet _ _ _ _ [_, _, _, _, _, _, _, _, _] _
          repeat (go_big_quiet_step (fail))
          refine wpQuiet_nil ?_
          rw [if_pos (by rfl)]
          intro K hK
          go_simp
          go_at_call 56
          refine (broken_any HDA.out).mono ?_
          rintro en wB ⟨rfl, rfl⟩
          refine hK Bd _ _ (Nat.le_refl _) (fun _ => Fr.refl _ _) ?_
          clear hK K
          try simp only [Act.put, List.setIfInBounds_toArray, List.set_cons_zero, List.set_cons_succ]
          refine wpSegs_cons rfl (List.getElem?_toArray ..) ?_
          simp only [pick, List.filterMap_cons, List.filterMap_nil, List.getElem?_toArray, List.getElem?_cons_succ, List.getElem?_cons_zero]
          show wpQuiet _ _ _ _ [_, _, _, _, _, _, _, _, _] _
          repeat (go_big_quiet_step (fail))
          refine wpQuiet_nil ?_
          rw [if_pos (by rfl)]
          intro K hK
          go_simp
          go_at_call 65
          refine (rooms_any HDA.out).mono ?_
          rintro en wB ⟨rfl, rfl⟩
          refine hK Bd _ _ (Nat.le_refl _) (fun _ => Fr.refl _ _) ?_
          clear hK K
          try simp only [Act.put, List.setIfInBounds_toArray, List.set_cons_zero, List.set_cons_succ]
          refine wpSegs_nil rfl ?_
          simp only [pick, List.filterMap_cons, List.filterMap_nil, List.getElem?_toArray, List.getElem?_cons_succ, List.getElem?_cons_zero]
          show wpQuiet _ _ _ _ [_, _] _
          repeat (go_big_quiet_step (fail))
          refine wpQuiet_nil ?_
          refine NoPan.normal ?_
          try simp only [Act.put, List.setIfInBounds_toArray, List.set_cons_zero, List.set_cons_succ]
          go_wp2_with fail
          clear hcbA hclA hrlA hAB hrl
          go_loopw [13] (fun c13 wx => ∃ k : Nat, k ≤ n ∧ c13 = .int .i64 (k : Int) ∧ Below wA.heap.size wA wx) (fun c13 _ => n - (intOf c13).toNat)
          case atStart => exact ⟨0, by omega, rfl, Below.refl _ _⟩
          case round =>
            obtain ⟨k, hk, rfl, hBx⟩ := hrel
            have HBX := Lib.hid hBx
            have HDX := Lib.hid (HDA.out.keep hBx)
            have HRX := Lib.hid (HRA.out.keep hBx)
            have hcbX : wr.cell? ⟨rd, 1, none⟩ = some (.bool br) := HRX.out.blk.cell 1
            have hclX : wr.cell? ⟨rd, 0, none⟩ = some (.slice (some ⟨rg, 0, none⟩) n n) := HRX.out.blk.cell 0
            have hrlX : rd < wr.heap.size := HRX.out.blk.lt
            have hglX : rg < wr.heap.size := HRX.out.arr.lt
            clear hBx
            by_cases hkn : k < n
            · have hdk : decide ((k : Int) < (n : Int)) = true := decide_eq_true (by omega)
              have hck := HRX.out.cell k hkn
              have hrow := HRX.out.rows k hkn
              obtain ⟨Ax, cx, hvx, -, -⟩ := hrow.ls.shape
              obtain ⟨nx, hnx⟩ : ∃ nx, nx = (L7.getD k []).length := ⟨_, rfl⟩
              rw [hvx, ← hnx] at hck
              rw [hvx, ← hnx] at hrow
              have HLEN : Hid ((L7.getD k []).length ≤ 1000000) := Lib.hid (HIZ.out.1.2.2 k hkn).2.2.1
              have HROW := Lib.hid hrow.ls
              have HRD : Hid (∀ W, Below wr.heap.size wr W → Calls Try.prog 54 #[dP d, .int .i64 (k : Int)] W fun e W' => ∃ A1 n1 c1, e = .returned (.slice A1 n1 c1) ∧ Ls W' (.slice A1 n1 c1) (L7.getD k []) ∧ Below W.heap.size W W') := Lib.hid (fun W hW => (read_inv (HDX.out.keep hW) (by omega) HIZ.out k hkn).mono (by
                rintro e W' ⟨A1, n1, c1, h1, h2, h3⟩
                exact ⟨A1, n1, c1, h1, h2.ls, h3⟩))
              have HSM : Hid (∀ W A1 n1 c1, Below wr.heap.size wr W → Ls W (.slice A1 n1 c1) (L7.getD k []) → Calls Try.prog 47 #[.slice A1 n1 c1, .slice Ax nx cx] W fun e W' => e = .returned (.bool true) ∧ Below W.heap.size W W') := Lib.hid (fun W A1 n1 c1 hW h1 => same_any (L7.getD k []) _ _ W h1 (HROW.out.keep hW) HLEN.out)
              have hk0 : (0 : Int) ≤ (k : Int) := by omega
              have hkni : (k : Int) < (n : Int) := by omega
              clear hvx hnx hrow
              cases br with
              | false =>
                obtain ⟨Z, hZ⟩ : ∃ Z, Z = (recs (L7.getD k [])).length := ⟨_, rfl⟩
                have HSZ : Hid (∀ W, Below wr.heap.size wr W → Calls Try.prog 53 #[dP d, .int .i64 (k : Int)] W fun e W' => e = .returned (.int .i64 (Z : Int)) ∧ W = W') := Lib.hid (fun W hW => by rw [hZ]; exact size_inv (HDX.out.keep hW) (by omega) HIZ.out k hkn)
                have HRS : Hid (∀ W, Below wr.heap.size wr W → Calls Try.prog 66 #[dP rd, .int .i64 (k : Int)] W fun e W' => e = .returned (.int .i64 (Z : Int)) ∧ W = W') := Lib.hid (fun W hW => by rw [hZ]; exact rsize_any (HRX.out.keep hW) (by omega) k hkn (by have := Inv.recs_le HIZ.out k; omega))
                have hzz : ((Z : Int) != (Z : Int)) = false := by simp
                clear hZ
                have hbR : Below wr.heap.size wr wr.drew := (Below.refl wr.heap.size wr).drew
                have hcbR : wr.drew.cell? ⟨rd, 1, none⟩ = some (.bool false) := hcbX
                have hclR : wr.drew.cell? ⟨rd, 0, none⟩ = some (.slice (some ⟨rg, 0, none⟩) n n) := hclX
                have hckR : wr.drew.cell? ⟨rg, k, none⟩ = some (.slice Ax nx cx) := hck
                go_wp2_with fail
                refine wp_region_grow 28 [([0, 1, 3, 4, 5, 6, 7, 8, 9], 2), ([], 10), ([11, 12, 13, 14, 15, 16, 17, 18, 19, 20, 22, 23], 21), ([], 24)] [25, 26, 27] (by kernel_rfl) (by kernel_rfl) ?_
                obtain ⟨Be, hBe⟩ : ∃ Be, Be = wr.heap.size := ⟨_, rfl⟩
                have hRB : wr.drew.heap.size = Be := hBe.symm
                obtain ⟨wR, hwR⟩ : ∃ wR, wR = wr.drew := ⟨_, rfl⟩
                rw [← hwR] at hbR hcbR hclR hckR hRB ⊢
                rw [← hBe] at hbR hrlX hglX HRD HSM HSZ HRS ⊢
                have HBR := Lib.hid hbR
                have HBE := Lib.hid hBe
                have hrlR : rd < wR.heap.size := by omega
                have hglR : rg < wR.heap.size := by omega
                clear hwR hBe hbR hcbX hclX hck
                try simp only [Act.put, List.setIfInBounds_toArray, List.set_cons_zero, List.set_cons_succ]
                refine wpSegs_cons rfl (List.getElem?_toArray ..) ?_
                simp only [pick, List.filterMap_cons, List.filterMap_nil, List.getElem?_toArray, List.getElem?_cons_succ, List.getElem?_cons_zero]
                show wpQuiet _ _ _ _ [_, _, _, _, _, _, _, _, _] _
                repeat (go_big_quiet_step (fail))
                refine wpQuiet_nil ?_
                rw [if_pos (by rfl)]
                intro K hK
                go_simp
                go_at_call 54
                refine (HRD.out wR HBR.out).mono ?_
                rintro en wC ⟨A9, n9, c9, rfl, hL9, hbC⟩
                refine hK Be _ _ (Nat.le_refl _) (fun _ => Fr.of_below hbC _) ?_
                clear hK K
                have HBC := Lib.hid (HBR.out.trans (hbC.mono (by omega)))
                have HL9 := Lib.hid hL9
                have hcbC : wC.cell? ⟨rd, 1, none⟩ = some (.bool false) := (hbC.cell (p := ⟨rd, 1, none⟩) hrlR).trans hcbR
                have hsC : Be ≤ wC.heap.size := by have := hbC.size; omega
                clear hbC hL9 hcbR hclR hckR hrlR hglR
                try simp only [Act.put, List.setIfInBounds_toArray, List.set_cons_zero, List.set_cons_succ]
                refine wpSegs_cons rfl (List.getElem?_toArray ..) ?_
                simp only [pick, List.filterMap_cons, List.filterMap_nil, List.getElem?_toArray, List.getElem?_cons_succ, List.getElem?_cons_zero]
                refine wpQuiet_nil ?_
                rw [if_pos (by rfl)]
                intro K hK
                go_simp
                go_at_call 47
                refine (HSM.out wC A9 n9 c9 HBC.out HL9.out).mono ?_
                rintro en wD ⟨rfl, hbD⟩
                refine hK Be _ _ (Nat.le_refl _) (fun _ => Fr.of_below hbD _) ?_
                clear hK K
                have HBD := Lib.hid (HBC.out.trans (hbD.mono hsC))
                have hcbD : wD.cell? ⟨rd, 1, none⟩ = some (.bool false) := (hbD.cell (p := ⟨rd, 1, none⟩) (Nat.lt_of_lt_of_le hrlX hsC)).trans hcbC
                have hrlD : rd < wD.heap.size := by have := hbD.size; omega
                clear hbD hcbC
                try simp only [Act.put, List.setIfInBounds_toArray, List.set_cons_zero, List.set_cons_succ]
                refine wpSegs_cons rfl (List.getElem?_toArray ..) ?_
                simp only [pick, List.filterMap_cons, List.filterMap_nil, List.getElem?_toArray, List.getElem?_cons_succ, List.getElem?_cons_zero]
                show wpQuiet _ _ _ _ [_, _, _, _, _, _, _, _, _, _, _, _] _
                repeat (go_big_quiet_step (fail))
                refine wpQuiet_nil ?_
                rw [if_pos (by rfl)]
                intro K hK
                go_simp
                go_at_call 53
                refine (HSZ.out wD HBD.out).mono ?_
                rintro en wE ⟨rfl, rfl⟩
                refine hK Be _ _ (Nat.le_refl _) (fun _ => Fr.refl _ _) ?_
                clear hK K
                try simp only [Act.put, List.setIfInBounds_toArray, List.set_cons_zero, List.set_cons_succ]
                refine wpSegs_cons rfl (List.getElem?_toArray ..) ?_
                simp only [pick, List.filterMap_cons, List.filterMap_nil, List.getElem?_toArray, List.getElem?_cons_succ, List.getElem?_cons_zero]
                refine wpQuiet_nil ?_
                rw [if_pos (by rfl)]
                intro K hK
                go_simp
                go_at_call 66
                refine (HRS.out wD HBD.out).mono ?_
                rintro en wE ⟨rfl, rfl⟩
                refine hK Be _ _ (Nat.le_refl _) (fun _ => Fr.refl _ _) ?_
                clear hK K
                try simp only [Act.put, List.setIfInBounds_toArray, List.set_cons_zero, List.set_cons_succ]
                refine wpSegs_nil rfl ?_
                simp only [pick, List.filterMap_cons, List.filterMap_nil, List.getElem?_toArray, List.getElem?_cons_succ, List.getElem?_cons_zero]
                show wpQuiet _ _ _ _ [_, _, _] _
                repeat (go_big_quiet_step (fail))
                refine wpQuiet_nil ?_
                refine NoPan.normal ?_
                try simp only [Act.put, List.setIfInBounds_toArray, List.set_cons_zero, List.set_cons_succ]
                go_wp2_with fail
                go_roundw
                case rel => exact ⟨k + 1, by omega, by go_num, HBX.out.trans (HBD.out.mono (by rw [HBE.out]; exact HBX.out.size))⟩
                case measure => simp [intOf]; omega
              | true =>
                have hbR : Below wr.heap.size wr wr.drew := (Below.refl wr.heap.size wr).drew
                have hcbR : wr.drew.cell? ⟨rd, 1, none⟩ = some (.bool true) := hcbX
                have hclR : wr.drew.cell? ⟨rd, 0, none⟩ = some (.slice (some ⟨rg, 0, none⟩) n n) := hclX
                have hckR : wr.drew.cell? ⟨rg, k, none⟩ = some (.slice Ax nx cx) := hck
                go_wp2_with fail
                refine wp_region_grow 28 [([0, 1, 3, 4, 5, 6, 7, 8, 9], 2), ([], 10), ([11, 12, 13, 14, 15, 16, 17, 18, 19, 20, 22, 23], 21), ([], 24)] [25, 26, 27] (by kernel_rfl) (by kernel_rfl) ?_
                obtain ⟨Be, hBe⟩ : ∃ Be, Be = wr.heap.size := ⟨_, rfl⟩
                have hRB : wr.drew.heap.size = Be := hBe.symm
                obtain ⟨wR, hwR⟩ : ∃ wR, wR = wr.drew := ⟨_, rfl⟩
                rw [← hwR] at hbR hcbR hclR hckR hRB ⊢
                rw [← hBe] at hbR hrlX hglX HRD HSM ⊢
                have HBR := Lib.hid hbR
                have HBE := Lib.hid hBe
                have hrlR : rd < wR.heap.size := by omega
                have hglR : rg < wR.heap.size := by omega
                clear hwR hBe hbR hcbX hclX hck
                try simp only [Act.put, List.setIfInBounds_toArray, List.set_cons_zero, List.set_cons_succ]
                refine wpSegs_cons rfl (List.getElem?_toArray ..) ?_
                simp only [pick, List.filterMap_cons, List.filterMap_nil, List.getElem?_toArray, List.getElem?_cons_succ, List.getElem?_cons_zero]
                show wpQuiet _ _ _ _ [_, _, _, _, _, _, _, _, _] _
                repeat (go_big_quiet_step (fail))
                refine wpQuiet_nil ?_
                rw [if_pos (by rfl)]
                intro K hK
                go_simp
                go_at_call 54
                refine (HRD.out wR HBR.out).mono ?_
                rintro en wC ⟨A9, n9, c9, rfl, hL9, hbC⟩
                refine hK Be _ _ (Nat.le_refl _) (fun _ => Fr.of_below hbC _) ?_
                clear hK K
                have HBC := Lib.hid (HBR.out.trans (hbC.mono (by omega)))
                have HL9 := Lib.hid hL9
                have hcbC : wC.cell? ⟨rd, 1, none⟩ = some (.bool true) := (hbC.cell (p := ⟨rd, 1, none⟩) hrlR).trans hcbR
                have hsC : Be ≤ wC.heap.size := by have := hbC.size; omega
                clear hbC hL9 hcbR hclR hckR hrlR hglR
                try simp only [Act.put, List.setIfInBounds_toArray, List.set_cons_zero, List.set_cons_succ]
                refine wpSegs_cons rfl (List.getElem?_toArray ..) ?_
                simp only [pick, List.filterMap_cons, List.filterMap_nil, List.getElem?_toArray, List.getElem?_cons_succ, List.getElem?_cons_zero]
                refine wpQuiet_nil ?_
                rw [if_pos (by rfl)]
                intro K hK
                go_simp
                go_at_call 47
                refine (HSM.out wC A9 n9 c9 HBC.out HL9.out).mono ?_
                rintro en wD ⟨rfl, hbD⟩
                refine hK Be _ _ (Nat.le_refl _) (fun _ => Fr.of_below hbD _) ?_
                clear hK K
                have HBD := Lib.hid (HBC.out.trans (hbD.mono hsC))
                have hcbD : wD.cell? ⟨rd, 1, none⟩ = some (.bool true) := (hbD.cell (p := ⟨rd, 1, none⟩) (Nat.lt_of_lt_of_le hrlX hsC)).trans hcbC
                have hrlD : rd < wD.heap.size := by have := hbD.size; omega
                clear hbD hcbC
                try simp only [Act.put, List.setIfInBounds_toArray, List.set_cons_zero, List.set_cons_succ]
                refine wpSegs_cons rfl (List.getElem?_toArray ..) ?_
                simp only [pick, List.filterMap_cons, List.filterMap_nil, List.getElem?_toArray, List.getElem?_cons_succ, List.getElem?_cons_zero]
                show wpQuiet _ _ _ _ [_, _, _, _, _, _, _, _, _, _, _, _] _
                repeat (go_big_quiet_step (fail))
                refine wpQuiet_nil ?_
                rw [if_neg (by intro h; exact Bool.false_ne_true h)]
                try simp only [Act.put, List.setIfInBounds_toArray, List.set_cons_zero, List.set_cons_succ]
                refine wpSegs_cons rfl (List.getElem?_toArray ..) ?_
                simp only [pick, List.filterMap_cons, List.filterMap_nil, List.getElem?_toArray, List.getElem?_cons_succ, List.getElem?_cons_zero]
                refine wpQuiet_nil ?_
                rw [if_neg (by intro h; exact Bool.false_ne_true h)]
                try simp only [Act.put, List.setIfInBounds_toArray, List.set_cons_zero, List.set_cons_succ]
                refine wpSegs_nil rfl ?_
                simp only [pick, List.filterMap_cons, List.filterMap_nil, List.getElem?_toArray, List.getElem?_cons_succ, List.getElem?_cons_zero]
                show wpQuiet _ _ _ _ [_, _, _] _
                repeat (go_big_quiet_step (fail))
                refine wpQuiet_nil ?_
                refine NoPan.normal ?_
                try simp only [Act.put, List.setIfInBounds_toArray, List.set_cons_zero, List.set_cons_succ]
                go_wp2_with fail
                go_roundw
                case rel => exact ⟨k + 1, by omega, by go_num, HBX.out.trans (HBD.out.mono (by rw [HBE.out]; exact HBX.out.size))⟩
                case measure => simp [intOf]; omega
            · obtain rfl : k = n := by omega
              have hdk : decide ((k : Int) < (k : Int)) = false := decide_eq_false (by omega)
              go_wp2_with fail
              go_roundw
              case rel => exact ⟨i + 1, vs8, l8, rsX, L7, br, by omega, by omega, by go_num, HDX.out, HIZ.out, HRX.out⟩
              case measure => simp [intOf]; omega
    · have hw : i < len1 ∧ ¬ i < 30 ∨ ¬ i < len1 := by omega
      rcases hw with ⟨hl1, hl2⟩ | hl1
      · have hd1 : decide ((i : Int) < (len1 : Int)) = true := decide_eq_true (by omega)
        have hd11 : decide (i < len1) = true := decide_eq_true hl1
        have hd2 : decide ((i : Int) < 30) = false := decide_eq_false (by omega)
        go_wp2_with fail
        go_ret
        exact ⟨rfl, HD.out.bel⟩
      · have hd1 : decide ((i : Int) < (len1 : Int)) = false := decide_eq_false (by omega)
        have hd11 : decide (i < len1) = false := decide_eq_false hl1
        go_wp2_with fail
        go_ret
        exact ⟨rfl, HD.out.bel⟩
end Go.Proofs.Ytnlkjhhocehhaaa.blockPlays
