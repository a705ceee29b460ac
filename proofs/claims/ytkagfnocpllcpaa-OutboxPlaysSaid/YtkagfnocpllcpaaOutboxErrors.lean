/- The law OutboxErrors: with an error nothing of a box is changed; an id that is there is not put again, nor one more than five. For every input. Written by wip/mkerrors.py. -/
import Derived.Test.YtkagfnocpllcpaaStep
import Derived.Test.YtkagfnocpllcpaaFrame
namespace Go.Proofs.Ytkagfnocpllcpaa
open Go Go.RowKit Go.Proofs
theorem IsOps.keep {w W : World} {a : Option Addr} {len cap : Nat} {l : List Op} (h : IsOps w a len cap l) (hb : Below w.heap.size w W) : IsOps W a len cap l := by
  rcases h with h | ⟨x, h1, h2, h3, h4, h5, h6⟩
  · exact .inl h
  · refine .inr ⟨x, h1, h2, h3, h4, h5, fun i o hi j hj => ?_⟩
    have hc := h6 i o hi j hj
    rw [← hc]
    refine hb.cell ?_
    have hs : (opCells o)[j]? = some ((opCells o)[j]'hj) := List.getElem?_eq_getElem hj
    rw [hs] at hc
    rcases Nat.lt_or_ge ((x.add (i * 5)).add j).block w.heap.size with h' | h'
    · exact h'
    · simp [World.cell?, Array.getElem?_eq_none h'] at hc
end Go.Proofs.Ytkagfnocpllcpaa
namespace Go.Proofs.Ytkagfnocpllcpaa.outboxErrors
open Go Go.RowKit Go.Proofs Go.Proofs.Ytkagfnocpllcpaa
set_option linter.unusedVariables false
set_option maxRecDepth 100000 in
set_option maxHeartbeats 40000000 in
theorem walk (a0 : Option Addr) (len0 cap0 : Nat) (l0 : List Op) (w : World) (w0 : IsOps w a0 len0 cap0 l0) :
    Calls Try.prog 4 #[.slice a0 len0 cap0] w fun e w' => e = .returned (.bool true) ∧ Below w.heap.size w w' := by
  have H0 := Lib.hid w0
  clear w0
  go_enter Try.func4, Try.ntmps4
  go_wp2_with (first
    | (go_at_call 9
       refine (lives_any w).mono ?_
       rintro e w1 ⟨rfl, hb1⟩)
    | (go_at_call 17
       refine (new_any _).mono ?_
       rintro e w2 ⟨rfl, hX2, hb2⟩
       have hL2 := Lb.new hX2 rfl hb2 hb1
       have HL2 := Lib.hid hL2
       have HE2 := Lib.hid (early_any a0 len0 cap0 l0 w2 (H0.out.keep hL2.bel))
       clear hX2 hb2 hL2)
    | (go_at_call 18
       refine HE2.out.mono ?_
       rintro e w3 ⟨vs, l, rfl, hO3, hl100, hfit, hrs, hb3⟩
       have HL3 := Lib.hid (HL2.out.keep hb3)
       have HO3 := Lib.hid hO3
       have HFIT := Lib.hid hfit
       obtain ⟨As, cs, hvs, hvs1, hvs2⟩ := hO3.shape
       subst hvs
       clear HL2 HE2 hO3 hfit hrs hb3)
    | fail)
  obtain ⟨b, hb⟩ : ∃ b, b = w1.heap.size := ⟨_, rfl⟩
  obtain ⟨n, hn⟩ : ∃ n, n = l.length := ⟨_, rfl⟩
  rw [← hb] at HL3 ⊢
  rw [← hn] at HO3 hl100 ⊢
  have HN := Lib.hid hn
  clear hb hb1 hn hvs1 hvs2
  go_loopw [4, 5] (fun c4 c5 wr => ∃ (i : Nat) (now bn : Int) (v : Value) (q : List E), i ≤ n ∧ c5 = .int .i64 (i : Int) ∧ c4 = .int .i64 now ∧ 0 ≤ bn ∧ bn ≤ now ∧ now ≤ 40 * (i : Int) ∧ Inv q bn ∧ Lb w wr b v q bn ∧ OpsO wr (.slice As n cs) l) (fun _ c5 _ => n - (intOf c5).toNat)
  case atStart => exact ⟨0, 0, 0, _, [], by omega, rfl, rfl, by omega, by omega, by omega, Inv.nil 0, HL3.out, HO3.out⟩
  case round =>
    obtain ⟨i, now, bn, v, q, hi, rfl, rfl, hbn, hbnow, hnow, hI, hL, hO⟩ := hrel
    have HI := Lib.hid hI
    have HL := Lib.hid hL
    have HO := Lib.hid hO
    clear hI hL hO HL3 HO3
    by_cases hin : i < n
    · have hd : decide ((i : Int) < (n : Int)) = true := decide_eq_true (by omega)
      obtain ⟨g, o, cp, hv, _, hg, hr⟩ := HO.out.at_ i (by rw [← HN.out]; exact hin)
      simp only [Value.slice.injEq] at hv
      obtain ⟨rfl, -, rfl⟩ := hv
      have hfx := HFIT.out (l.getD i default) (by have := HN.out; simp [show i < l.length by omega])
      obtain ⟨x, hx⟩ : ∃ x, x = l.getD i default := ⟨_, rfl⟩
      rw [← hx] at hr hfx
      obtain ⟨z1, z2, z3, id, body⟩ := x
      obtain ⟨hs70, ht40⟩ := hfx
      have hs70 : id.size ≤ 70 := hs70
      have hidm : id.size ≤ maxLen := by unfold maxLen; omega
      have HRR := Lib.hid hr
      obtain ⟨r, hr0, hr1, hr2, hr3⟩ := rem_u 40 (by decide) z2
      obtain ⟨t, ht⟩ : ∃ t, now + r = t := ⟨_, rfl⟩
      have htn : now ≤ t := by omega
      have htn2 : t ≤ now + 40 := by omega
      have ht0 : 0 ≤ t := by omega
      have ht1 : t ≤ 5000 := by omega
      have hbt : bn ≤ t := by omega
      have hbn1 : bn ≤ 5000 := by omega
      have hq12 : (isortL q).length ≤ 100 := by rw [(isortL_perm q).length_eq]; have := HI.out.len; omega
      have hq5 : q.length ≤ 5 := HI.out.len
      have HKD := Lib.hid (fun w => kind_any ⟨z1, z2, z3, id, body⟩ w)
      obtain ⟨kd, hkd⟩ : ∃ kd, kd = kindI z1 := ⟨_, rfl⟩
      have hbd := kindI_bd z1
      rw [← hkd] at hbd
      have HKE : Hid (∀ w, Calls Try.prog 20 #[opV ⟨z1, z2, z3, id, body⟩] w fun e w' => e = .returned (.int .i64 kd) ∧ Below w.heap.size w w') := Lib.hid (by rw [hkd]; exact HKD.out)
      have HW1 := Lib.hid htn2
      have HW2 := Lib.hid hnow
      have HBT := Lib.hid hbt
      clear hx hr HKD hkd hnow htn htn2
      rcases hbd with hk | hk | hk
      · subst hk
        rcases put_cases q bn id body t HI.out hbt with ⟨e, hp, he1, he2⟩ | ⟨hp, hi2, hl2, hl5, hni, hput⟩
        · have HP := Lib.hid hp
          clear hp
          have tok1 : True := trivial
          obtain ⟨wo, rfl⟩ : ∃ wo : World, wo = wr := ⟨_, rfl⟩
          go_wp2_with (first
            | (with_reducible refine wpList_load_mid rfl 23 (.tmp 26) rfl g (o + i * 5) (by with_unfolding_all rfl) (opCells ⟨z1, z2, z3, id, body⟩) _ HRR.out Try.underlying23 rfl (info23 _) ?_)
            | (with_reducible refine wpList_alloc_run rfl 23 rfl (opCells default).toArray zero23 ?_)
            | (refine wpList_store_blk rfl 23 (.tmp 6) (.tmp 27) rfl wo.heap.size 23 (opCells default).toArray (opCells ⟨z1, z2, z3, id, body⟩).toArray (by rfl) (by rfl) (Blk.new wo 23 _) rfl (info23 _) (one_op _) ?_
               intro w2 hb2 hf2
               have hF2 : Fr nob wo w2 := ((Fr.refl nob wo).alloc _).then hf2 (fun i hi => Or.inr (by unfold one at hi; omega))
               have hc1 : w2.cell? ⟨wo.heap.size, 1, none⟩ = some (.int .i64 z2) := hb2.cell 1
               have HS := Lib.hid (show Sd w w2 b v q bn _ l wo.heap.size ⟨z1, z2, z3, id, body⟩ from ⟨HL.out.keep hF2.below_nob, HO.out.keep hF2.below_nob, hb2⟩)
               clear hb2 hf2 hF2)
            | (go_at_call 14
               have _t := tok1
               refine (all_any b _ _ _ _ HS.out.lb.box (by omega)).mono ?_
               rintro en w3 ⟨v3, rfl, hE, hr, hb⟩
               obtain ⟨A3, c3, hv3, -, -⟩ := hE.shape
               subst hv3
               have HA3 := Lib.hid (as_any (isortL q) _ w3 hE hq12)
               have HS3 := Lib.hid (HS.out.keep hb)
               clear HS hE hr hb tok1)
            | (go_at_call 19
               refine HA3.out.mono ?_
               rintro en w4 ⟨v4, rfl, hE, hr, hb⟩
               obtain ⟨A4, c4, hv4, -, -⟩ := hE.shape
               subst hv4
               have HW4 := Lib.hid hE
               have HS4 := Lib.hid (HS3.out.keep hb)
               have HNW := Lib.hid (now_any b _ _ _ _ HS4.out.lb.box)
               have HB4 := Lib.hid HS4.out.blk
               clear HA3 HS3 hE hr hb)
            | (go_at_call 15
               refine HNW.out.mono ?_
               rintro en w4' ⟨rfl, rfl⟩
               clear HNW)
            | (with_reducible refine wpList_load_blk rfl 23 (.tmp 6) rfl wo.heap.size 23 (opCells ⟨z1, z2, z3, id, body⟩).toArray _ (by with_unfolding_all rfl) HB4.out Try.underlying23 rfl (info23 _) ?_
               clear HB4)
            | (go_at_call 20
               have _t := HS4
               with_reducible refine (HKE.out _).mono ?_
               rintro en w5 ⟨rfl, hb⟩
               have HW5 := Lib.hid (HW4.out.keep hb)
               have hs5 := HS4.out.keep hb
               have hc3 : w5.cell? ⟨wo.heap.size, 3, none⟩ = some (.string id) := hs5.blk.cell 3
               have hc4 : w5.cell? ⟨wo.heap.size, 4, none⟩ = some (.string body) := hs5.blk.cell 4
               have HS5 := Lib.hid hs5
               have hCC := put_any b _ _ _ id body t w5 hs5.lb.box hq5 hidm
               rw [HP.out] at hCC
               have HCC := Lib.hid hCC
               clear HS4 HW4 hb hs5 hCC)
            | (go_at_call 11
               have _t := HCC
               refine HCC.out.mono ?_
               rintro en w6 ⟨rfl, hT⟩
               obtain ⟨v6, hs6, hF6⟩ := HS5.out.to hT
               have HW6 := Lib.hid (HS5.out.rows hF6 HW5.out)
               have HB6 := Lib.hid hs6.blk
               have HS6 := Lib.hid hs6
               clear HCC HS5 HW5 hT hs6 hF6)
            | (with_reducible refine wpList_load_blk rfl 23 (.tmp 6) rfl wo.heap.size 23 (opCells ⟨z1, z2, z3, id, body⟩).toArray _ (by with_unfolding_all rfl) HB6.out Try.underlying23 rfl (info23 _) ?_
               clear HB6)
            | (go_at_call 20
               have _t := HS6
               with_reducible refine (HKE.out _).mono ?_
               rintro en w7 ⟨rfl, hb⟩
               have HW7 := Lib.hid (HW6.out.keep hb)
               have hs7 := HS6.out.keep hb
               have HS7 := Lib.hid hs7
               have tok2 : True := trivial
               clear HS6 HW6 hb hs7)
            | (go_at_call 14
               have _t := tok2
               refine (all_any b _ _ _ _ HS7.out.lb.box (by omega)).mono ?_
               rintro en w8 ⟨v8, rfl, hE, hr, hb⟩
               obtain ⟨A8, c8, hv8, -, -⟩ := hE.shape
               subst hv8
               have HA8 := Lib.hid (as_any (isortL q) _ w8 hE hq12)
               have HW8 := Lib.hid (HW7.out.keep hb)
               have HS8 := Lib.hid (HS7.out.keep hb)
               clear HS7 HW7 hE hr hb tok2)
            | (go_at_call 19
               refine HA8.out.mono ?_
               rintro en w9 ⟨v9, rfl, hE, hr, hb⟩
               obtain ⟨A9, c9, hv9, -, -⟩ := hE.shape
               subst hv9
               have HSM := Lib.hid (same_any (isortL q) _ _ w9 (HW8.out.keep hb) hE hq12)
               have HS9 := Lib.hid (HS8.out.keep hb)
               clear HA8 HW8 HS8 hE hr hb)
            | (go_at_call 21
               refine HSM.out.mono ?_
               rintro en w10 ⟨rfl, hb⟩
               have hs10 := HS9.out.keep hb
               have HNW := Lib.hid (now_any b _ _ _ _ hs10.lb.box)
               have HS10 := Lib.hid hs10
               clear HSM HS9 hb hs10)
            | fail)
          go_roundw
          case rel =>
            have h1 := HW1.out
            have h2 := HW2.out
            exact ⟨i + 1, t, bn, _, _, by omega, by go_num, by go_num, by omega, by omega, by omega, HI.out, HS10.out.lb, HS10.out.ops⟩
          case measure => simp [intOf]; omega
        · have HP := Lib.hid hp
          have HI2 := Lib.hid hi2
          have HPUT := Lib.hid hput
          have hq52 : (Hp.pushL ltE q ⟨id, body, t, 0, t⟩).length ≤ 5 := by omega
          obtain ⟨q2, hq2⟩ : ∃ q2, q2 = Hp.pushL ltE q ⟨id, body, t, 0, t⟩ := ⟨_, rfl⟩
          rw [← hq2] at HP HI2 HPUT hq52
          clear hp hi2 hl2 hl5 hni hput hq2
          have tok1 : True := trivial
          obtain ⟨wo, rfl⟩ : ∃ wo : World, wo = wr := ⟨_, rfl⟩
          go_wp2_with (first
            | (with_reducible refine wpList_load_mid rfl 23 (.tmp 26) rfl g (o + i * 5) (by with_unfolding_all rfl) (opCells ⟨z1, z2, z3, id, body⟩) _ HRR.out Try.underlying23 rfl (info23 _) ?_)
            | (with_reducible refine wpList_alloc_run rfl 23 rfl (opCells default).toArray zero23 ?_)
            | (refine wpList_store_blk rfl 23 (.tmp 6) (.tmp 27) rfl wo.heap.size 23 (opCells default).toArray (opCells ⟨z1, z2, z3, id, body⟩).toArray (by rfl) (by rfl) (Blk.new wo 23 _) rfl (info23 _) (one_op _) ?_
               intro w2 hb2 hf2
               have hF2 : Fr nob wo w2 := ((Fr.refl nob wo).alloc _).then hf2 (fun i hi => Or.inr (by unfold one at hi; omega))
               have hc1 : w2.cell? ⟨wo.heap.size, 1, none⟩ = some (.int .i64 z2) := hb2.cell 1
               have HS := Lib.hid (show Sd w w2 b v q bn _ l wo.heap.size ⟨z1, z2, z3, id, body⟩ from ⟨HL.out.keep hF2.below_nob, HO.out.keep hF2.below_nob, hb2⟩)
               clear hb2 hf2 hF2)
            | (go_at_call 14
               have _t := tok1
               refine (all_any b _ _ _ _ HS.out.lb.box (by omega)).mono ?_
               rintro en w3 ⟨v3, rfl, hE, hr, hb⟩
               obtain ⟨A3, c3, hv3, -, -⟩ := hE.shape
               subst hv3
               have HA3 := Lib.hid (as_any (isortL q) _ w3 hE hq12)
               have HS3 := Lib.hid (HS.out.keep hb)
               clear HS hE hr hb tok1)
            | (go_at_call 19
               refine HA3.out.mono ?_
               rintro en w4 ⟨v4, rfl, hE, hr, hb⟩
               obtain ⟨A4, c4, hv4, -, -⟩ := hE.shape
               subst hv4
               have HW4 := Lib.hid hE
               have HS4 := Lib.hid (HS3.out.keep hb)
               have HNW := Lib.hid (now_any b _ _ _ _ HS4.out.lb.box)
               have HB4 := Lib.hid HS4.out.blk
               clear HA3 HS3 hE hr hb)
            | (go_at_call 15
               refine HNW.out.mono ?_
               rintro en w4' ⟨rfl, rfl⟩
               clear HNW)
            | (with_reducible refine wpList_load_blk rfl 23 (.tmp 6) rfl wo.heap.size 23 (opCells ⟨z1, z2, z3, id, body⟩).toArray _ (by with_unfolding_all rfl) HB4.out Try.underlying23 rfl (info23 _) ?_
               clear HB4)
            | (go_at_call 20
               have _t := HS4
               with_reducible refine (HKE.out _).mono ?_
               rintro en w5 ⟨rfl, hb⟩
               have HW5 := Lib.hid (HW4.out.keep hb)
               have hs5 := HS4.out.keep hb
               have hc3 : w5.cell? ⟨wo.heap.size, 3, none⟩ = some (.string id) := hs5.blk.cell 3
               have hc4 : w5.cell? ⟨wo.heap.size, 4, none⟩ = some (.string body) := hs5.blk.cell 4
               have HS5 := Lib.hid hs5
               have hCC := put_any b _ _ _ id body t w5 hs5.lb.box hq5 hidm
               rw [HP.out] at hCC
               have HCC := Lib.hid hCC
               clear HS4 HW4 hb hs5 hCC)
            | (go_at_call 11
               have _t := HCC
               refine HCC.out.mono ?_
               rintro en w6 ⟨rfl, hT⟩
               obtain ⟨v6, hs6, hF6⟩ := HS5.out.to hT
               have HW6 := Lib.hid (HS5.out.rows hF6 HW5.out)
               have HB6 := Lib.hid hs6.blk
               have HS6 := Lib.hid hs6
               clear HCC HS5 HW5 hT hs6 hF6)
            | (with_reducible refine wpList_load_blk rfl 23 (.tmp 6) rfl wo.heap.size 23 (opCells ⟨z1, z2, z3, id, body⟩).toArray _ (by with_unfolding_all rfl) HB6.out Try.underlying23 rfl (info23 _) ?_
               clear HB6)
            | (go_at_call 20
               have _t := HS6
               with_reducible refine (HKE.out _).mono ?_
               rintro en w7 ⟨rfl, hb⟩
               have HW7 := Lib.hid (HW6.out.keep hb)
               have hs7 := HS6.out.keep hb
               have HS7 := Lib.hid hs7
               have hd0 : w7.cell? ⟨wo.heap.size, 0, none⟩ = some (.int .i64 z1) := hs7.blk.cell 0
               have hd1 : w7.cell? ⟨wo.heap.size, 1, none⟩ = some (.int .i64 z2) := hs7.blk.cell 1
               have hd2 : w7.cell? ⟨wo.heap.size, 2, none⟩ = some (.int .i64 z3) := hs7.blk.cell 2
               have hd3 : w7.cell? ⟨wo.heap.size, 3, none⟩ = some (.string id) := hs7.blk.cell 3
               have hd4 : w7.cell? ⟨wo.heap.size, 4, none⟩ = some (.string body) := hs7.blk.cell 4
               clear HS6 HW6 hb hs7)
            | (go_at_call 20
               have _t := HS7
               with_reducible refine (HKE.out _).mono ?_
               rintro en w8 ⟨rfl, hb⟩
               have hs8 := HS7.out.keep hb
               have hc3 : w8.cell? ⟨wo.heap.size, 3, none⟩ = some (.string id) := hs8.blk.cell 3
               have hCC := put_any b _ _ _ id ⟨#[111, 116, 104, 101, 114]⟩ t w8 hs8.lb.box hq52 hidm
               rw [HPUT.out] at hCC
               have HC9 := Lib.hid hCC
               clear hCC
               have HS8 := Lib.hid hs8
               clear HS7 hs8 hb)
            | (go_at_call 11
               refine HC9.out.mono ?_
               rintro en w9 ⟨rfl, hT⟩
               obtain ⟨v9, hs9, hF9⟩ := HS8.out.to hT
               have HS9 := Lib.hid hs9
               clear HC9 HS8 hT hs9 hF9)
            | fail)
          go_roundw
          case rel =>
            have h1 := HW1.out
            have h2 := HW2.out
            exact ⟨i + 1, t, t, _, _, by omega, by go_num, by go_num, by omega, by omega, by omega, HI2.out, HS9.out.lb, HS9.out.ops⟩
          case measure => simp [intOf]; omega
      · subst hk
        have hp := try_early bn q
        have HP := Lib.hid hp
        clear hp
        obtain ⟨bm, hbm⟩ : ∃ bm, bn - 1 = bm := ⟨_, rfl⟩
        rw [hbm] at HP
        have hbm0 : -1 ≤ bm := by omega
        have hbm1 : bm ≤ 5000 := by omega
        have tok1 : True := trivial
        obtain ⟨wo, rfl⟩ : ∃ wo : World, wo = wr := ⟨_, rfl⟩
        go_wp2_with (first
          | (with_reducible refine wpList_load_mid rfl 23 (.tmp 26) rfl g (o + i * 5) (by with_unfolding_all rfl) (opCells ⟨z1, z2, z3, id, body⟩) _ HRR.out Try.underlying23 rfl (info23 _) ?_)
          | (with_reducible refine wpList_alloc_run rfl 23 rfl (opCells default).toArray zero23 ?_)
          | (refine wpList_store_blk rfl 23 (.tmp 6) (.tmp 27) rfl wo.heap.size 23 (opCells default).toArray (opCells ⟨z1, z2, z3, id, body⟩).toArray (by rfl) (by rfl) (Blk.new wo 23 _) rfl (info23 _) (one_op _) ?_
             intro w2 hb2 hf2
             have hF2 : Fr nob wo w2 := ((Fr.refl nob wo).alloc _).then hf2 (fun i hi => Or.inr (by unfold one at hi; omega))
             have hc1 : w2.cell? ⟨wo.heap.size, 1, none⟩ = some (.int .i64 z2) := hb2.cell 1
             have HS := Lib.hid (show Sd w w2 b v q bn _ l wo.heap.size ⟨z1, z2, z3, id, body⟩ from ⟨HL.out.keep hF2.below_nob, HO.out.keep hF2.below_nob, hb2⟩)
             clear hb2 hf2 hF2)
          | (go_at_call 14
             have _t := tok1
             refine (all_any b _ _ _ _ HS.out.lb.box (by omega)).mono ?_
             rintro en w3 ⟨v3, rfl, hE, hr, hb⟩
             obtain ⟨A3, c3, hv3, -, -⟩ := hE.shape
             subst hv3
             have HA3 := Lib.hid (as_any (isortL q) _ w3 hE hq12)
             have HS3 := Lib.hid (HS.out.keep hb)
             clear HS hE hr hb tok1)
          | (go_at_call 19
             refine HA3.out.mono ?_
             rintro en w4 ⟨v4, rfl, hE, hr, hb⟩
             obtain ⟨A4, c4, hv4, -, -⟩ := hE.shape
             subst hv4
             have HW4 := Lib.hid hE
             have HS4 := Lib.hid (HS3.out.keep hb)
             have HNW := Lib.hid (now_any b _ _ _ _ HS4.out.lb.box)
             have HB4 := Lib.hid HS4.out.blk
             clear HA3 HS3 hE hr hb)
          | (go_at_call 15
             refine HNW.out.mono ?_
             rintro en w4' ⟨rfl, rfl⟩
             clear HNW)
          | (with_reducible refine wpList_load_blk rfl 23 (.tmp 6) rfl wo.heap.size 23 (opCells ⟨z1, z2, z3, id, body⟩).toArray _ (by with_unfolding_all rfl) HB4.out Try.underlying23 rfl (info23 _) ?_
             clear HB4)
          | (go_at_call 20
             have _t := HS4
             with_reducible refine (HKE.out _).mono ?_
             rintro en w5 ⟨rfl, hb⟩
             have HW5 := Lib.hid (HW4.out.keep hb)
             have hs5 := HS4.out.keep hb
             have hc3 : w5.cell? ⟨wo.heap.size, 3, none⟩ = some (.string id) := hs5.blk.cell 3
             have hc4 : w5.cell? ⟨wo.heap.size, 4, none⟩ = some (.string body) := hs5.blk.cell 4
             have HS5 := Lib.hid hs5
             have hCC := try_any b _ _ _ bm w5 hs5.lb.box hq5 hbn (fun x hx => by have h9 : (dueL bm q).1 ⊆ q := fun y hy => (due_laws bm q.length q (Nat.le_refl _) HI.out.nod HI.out.heap).1.mem_iff.1 (List.mem_append.2 (.inl hy)); exact HI.out.tries x (h9 hx))
             rw [HP.out] at hCC
             have HCC := Lib.hid hCC
             clear HS4 HW4 hb hs5 hCC)
          | (go_at_call 10
             have _t := HCC
             refine HCC.out.mono ?_
             rintro en w6 ⟨⟨vo, vg, rfl, hO6, hG6⟩, hT⟩
             obtain ⟨A6, c6, hv6, -, -⟩ := hO6.ents.shape
             obtain ⟨B6, d6, hw6, -, -⟩ := hG6.own.shape
             subst hv6
             subst hw6
             obtain ⟨v6, hs6, hF6⟩ := HS5.out.to hT
             have HW6 := Lib.hid (HS5.out.rows hF6 HW5.out)
             have HB6 := Lib.hid hs6.blk
             have HS6 := Lib.hid hs6
             clear HCC HS5 HW5 hT hs6 hF6 hO6 hG6)
          | (with_reducible refine wpList_load_blk rfl 23 (.tmp 6) rfl wo.heap.size 23 (opCells ⟨z1, z2, z3, id, body⟩).toArray _ (by with_unfolding_all rfl) HB6.out Try.underlying23 rfl (info23 _) ?_
             clear HB6)
          | (go_at_call 20
             have _t := HS6
             with_reducible refine (HKE.out _).mono ?_
             rintro en w7 ⟨rfl, hb⟩
             have HW7 := Lib.hid (HW6.out.keep hb)
             have hs7 := HS6.out.keep hb
             have HS7 := Lib.hid hs7
             have tok2 : True := trivial
             clear HS6 HW6 hb hs7)
          | (go_at_call 14
             have _t := tok2
             refine (all_any b _ _ _ _ HS7.out.lb.box (by omega)).mono ?_
             rintro en w8 ⟨v8, rfl, hE, hr, hb⟩
             obtain ⟨A8, c8, hv8, -, -⟩ := hE.shape
             subst hv8
             have HA8 := Lib.hid (as_any (isortL q) _ w8 hE hq12)
             have HW8 := Lib.hid (HW7.out.keep hb)
             have HS8 := Lib.hid (HS7.out.keep hb)
             clear HS7 HW7 hE hr hb tok2)
          | (go_at_call 19
             refine HA8.out.mono ?_
             rintro en w9 ⟨v9, rfl, hE, hr, hb⟩
             obtain ⟨A9, c9, hv9, -, -⟩ := hE.shape
             subst hv9
             have HSM := Lib.hid (same_any (isortL q) _ _ w9 (HW8.out.keep hb) hE hq12)
             have HS9 := Lib.hid (HS8.out.keep hb)
             clear HA8 HW8 HS8 hE hr hb)
          | (go_at_call 21
             refine HSM.out.mono ?_
             rintro en w10 ⟨rfl, hb⟩
             have hs10 := HS9.out.keep hb
             have HNW := Lib.hid (now_any b _ _ _ _ hs10.lb.box)
             have HS10 := Lib.hid hs10
             clear HSM HS9 hb hs10)
          | fail)
        go_roundw
        case rel =>
          have h1 := HW1.out
          have h2 := HW2.out
          exact ⟨i + 1, t, bn, _, _, by omega, by go_num, by go_num, by omega, by omega, by omega, HI.out, HS10.out.lb, HS10.out.ops⟩
        case measure => simp [intOf]; omega
      · subst hk
        rcases take_cases q bn id HI.out with hp | ⟨hp, hi2, hl2⟩
        · have HP := Lib.hid hp
          clear hp
          have tok1 : True := trivial
          obtain ⟨wo, rfl⟩ : ∃ wo : World, wo = wr := ⟨_, rfl⟩
          go_wp2_with (first
            | (with_reducible refine wpList_load_mid rfl 23 (.tmp 26) rfl g (o + i * 5) (by with_unfolding_all rfl) (opCells ⟨z1, z2, z3, id, body⟩) _ HRR.out Try.underlying23 rfl (info23 _) ?_)
            | (with_reducible refine wpList_alloc_run rfl 23 rfl (opCells default).toArray zero23 ?_)
            | (refine wpList_store_blk rfl 23 (.tmp 6) (.tmp 27) rfl wo.heap.size 23 (opCells default).toArray (opCells ⟨z1, z2, z3, id, body⟩).toArray (by rfl) (by rfl) (Blk.new wo 23 _) rfl (info23 _) (one_op _) ?_
               intro w2 hb2 hf2
               have hF2 : Fr nob wo w2 := ((Fr.refl nob wo).alloc _).then hf2 (fun i hi => Or.inr (by unfold one at hi; omega))
               have hc1 : w2.cell? ⟨wo.heap.size, 1, none⟩ = some (.int .i64 z2) := hb2.cell 1
               have HS := Lib.hid (show Sd w w2 b v q bn _ l wo.heap.size ⟨z1, z2, z3, id, body⟩ from ⟨HL.out.keep hF2.below_nob, HO.out.keep hF2.below_nob, hb2⟩)
               clear hb2 hf2 hF2)
            | (go_at_call 14
               have _t := tok1
               refine (all_any b _ _ _ _ HS.out.lb.box (by omega)).mono ?_
               rintro en w3 ⟨v3, rfl, hE, hr, hb⟩
               obtain ⟨A3, c3, hv3, -, -⟩ := hE.shape
               subst hv3
               have HA3 := Lib.hid (as_any (isortL q) _ w3 hE hq12)
               have HS3 := Lib.hid (HS.out.keep hb)
               clear HS hE hr hb tok1)
            | (go_at_call 19
               refine HA3.out.mono ?_
               rintro en w4 ⟨v4, rfl, hE, hr, hb⟩
               obtain ⟨A4, c4, hv4, -, -⟩ := hE.shape
               subst hv4
               have HW4 := Lib.hid hE
               have HS4 := Lib.hid (HS3.out.keep hb)
               have HNW := Lib.hid (now_any b _ _ _ _ HS4.out.lb.box)
               have HB4 := Lib.hid HS4.out.blk
               clear HA3 HS3 hE hr hb)
            | (go_at_call 15
               refine HNW.out.mono ?_
               rintro en w4' ⟨rfl, rfl⟩
               clear HNW)
            | (with_reducible refine wpList_load_blk rfl 23 (.tmp 6) rfl wo.heap.size 23 (opCells ⟨z1, z2, z3, id, body⟩).toArray _ (by with_unfolding_all rfl) HB4.out Try.underlying23 rfl (info23 _) ?_
               clear HB4)
            | (go_at_call 20
               have _t := HS4
               with_reducible refine (HKE.out _).mono ?_
               rintro en w5 ⟨rfl, hb⟩
               have HW5 := Lib.hid (HW4.out.keep hb)
               have hs5 := HS4.out.keep hb
               have hc3 : w5.cell? ⟨wo.heap.size, 3, none⟩ = some (.string id) := hs5.blk.cell 3
               have hc4 : w5.cell? ⟨wo.heap.size, 4, none⟩ = some (.string body) := hs5.blk.cell 4
               have HS5 := Lib.hid hs5
               have hCC := take_any b _ _ _ id w5 hs5.lb.box hq5
               rw [HP.out] at hCC
               have HCC := Lib.hid hCC
               clear HS4 HW4 hb hs5 hCC)
            | (go_at_call 12
               have _t := HCC
               refine HCC.out.mono ?_
               rintro en w6 ⟨rfl, hT⟩
               obtain ⟨v6, hs6, hF6⟩ := HS5.out.to hT
               have HW6 := Lib.hid (HS5.out.rows hF6 HW5.out)
               have HB6 := Lib.hid hs6.blk
               have HS6 := Lib.hid hs6
               clear HCC HS5 HW5 hT hs6 hF6)
            | (with_reducible refine wpList_load_blk rfl 23 (.tmp 6) rfl wo.heap.size 23 (opCells ⟨z1, z2, z3, id, body⟩).toArray _ (by with_unfolding_all rfl) HB6.out Try.underlying23 rfl (info23 _) ?_
               clear HB6)
            | (go_at_call 20
               have _t := HS6
               with_reducible refine (HKE.out _).mono ?_
               rintro en w7 ⟨rfl, hb⟩
               have HW7 := Lib.hid (HW6.out.keep hb)
               have hs7 := HS6.out.keep hb
               have HS7 := Lib.hid hs7
               have tok2 : True := trivial
               clear HS6 HW6 hb hs7)
            | (go_at_call 14
               have _t := tok2
               refine (all_any b _ _ _ _ HS7.out.lb.box (by omega)).mono ?_
               rintro en w8 ⟨v8, rfl, hE, hr, hb⟩
               obtain ⟨A8, c8, hv8, -, -⟩ := hE.shape
               subst hv8
               have HA8 := Lib.hid (as_any (isortL q) _ w8 hE hq12)
               have HW8 := Lib.hid (HW7.out.keep hb)
               have HS8 := Lib.hid (HS7.out.keep hb)
               clear HS7 HW7 hE hr hb tok2)
            | (go_at_call 19
               refine HA8.out.mono ?_
               rintro en w9 ⟨v9, rfl, hE, hr, hb⟩
               obtain ⟨A9, c9, hv9, -, -⟩ := hE.shape
               subst hv9
               have HSM := Lib.hid (same_any (isortL q) _ _ w9 (HW8.out.keep hb) hE hq12)
               have HS9 := Lib.hid (HS8.out.keep hb)
               clear HA8 HW8 HS8 hE hr hb)
            | (go_at_call 21
               refine HSM.out.mono ?_
               rintro en w10 ⟨rfl, hb⟩
               have hs10 := HS9.out.keep hb
               have HNW := Lib.hid (now_any b _ _ _ _ hs10.lb.box)
               have HS10 := Lib.hid hs10
               clear HSM HS9 hb hs10)
            | fail)
          go_roundw
          case rel =>
            have h1 := HW1.out
            have h2 := HW2.out
            exact ⟨i + 1, t, bn, _, _, by omega, by go_num, by go_num, by omega, by omega, by omega, HI.out, HS10.out.lb, HS10.out.ops⟩
          case measure => simp [intOf]; omega
        · have HP := Lib.hid hp
          have HI2 := Lib.hid hi2
          have hq52 : (takeF q id).2.length ≤ 5 := by omega
          obtain ⟨q2, hq2⟩ : ∃ q2, q2 = (takeF q id).2 := ⟨_, rfl⟩
          rw [← hq2] at HP HI2 hq52
          clear hp hi2 hl2 hq2
          have tok1 : True := trivial
          obtain ⟨wo, rfl⟩ : ∃ wo : World, wo = wr := ⟨_, rfl⟩
          go_wp2_with (first
            | (with_reducible refine wpList_load_mid rfl 23 (.tmp 26) rfl g (o + i * 5) (by with_unfolding_all rfl) (opCells ⟨z1, z2, z3, id, body⟩) _ HRR.out Try.underlying23 rfl (info23 _) ?_)
            | (with_reducible refine wpList_alloc_run rfl 23 rfl (opCells default).toArray zero23 ?_)
            | (refine wpList_store_blk rfl 23 (.tmp 6) (.tmp 27) rfl wo.heap.size 23 (opCells default).toArray (opCells ⟨z1, z2, z3, id, body⟩).toArray (by rfl) (by rfl) (Blk.new wo 23 _) rfl (info23 _) (one_op _) ?_
               intro w2 hb2 hf2
               have hF2 : Fr nob wo w2 := ((Fr.refl nob wo).alloc _).then hf2 (fun i hi => Or.inr (by unfold one at hi; omega))
               have hc1 : w2.cell? ⟨wo.heap.size, 1, none⟩ = some (.int .i64 z2) := hb2.cell 1
               have HS := Lib.hid (show Sd w w2 b v q bn _ l wo.heap.size ⟨z1, z2, z3, id, body⟩ from ⟨HL.out.keep hF2.below_nob, HO.out.keep hF2.below_nob, hb2⟩)
               clear hb2 hf2 hF2)
            | (go_at_call 14
               have _t := tok1
               refine (all_any b _ _ _ _ HS.out.lb.box (by omega)).mono ?_
               rintro en w3 ⟨v3, rfl, hE, hr, hb⟩
               obtain ⟨A3, c3, hv3, -, -⟩ := hE.shape
               subst hv3
               have HA3 := Lib.hid (as_any (isortL q) _ w3 hE hq12)
               have HS3 := Lib.hid (HS.out.keep hb)
               clear HS hE hr hb tok1)
            | (go_at_call 19
               refine HA3.out.mono ?_
               rintro en w4 ⟨v4, rfl, hE, hr, hb⟩
               obtain ⟨A4, c4, hv4, -, -⟩ := hE.shape
               subst hv4
               have HW4 := Lib.hid hE
               have HS4 := Lib.hid (HS3.out.keep hb)
               have HNW := Lib.hid (now_any b _ _ _ _ HS4.out.lb.box)
               have HB4 := Lib.hid HS4.out.blk
               clear HA3 HS3 hE hr hb)
            | (go_at_call 15
               refine HNW.out.mono ?_
               rintro en w4' ⟨rfl, rfl⟩
               clear HNW)
            | (with_reducible refine wpList_load_blk rfl 23 (.tmp 6) rfl wo.heap.size 23 (opCells ⟨z1, z2, z3, id, body⟩).toArray _ (by with_unfolding_all rfl) HB4.out Try.underlying23 rfl (info23 _) ?_
               clear HB4)
            | (go_at_call 20
               have _t := HS4
               with_reducible refine (HKE.out _).mono ?_
               rintro en w5 ⟨rfl, hb⟩
               have HW5 := Lib.hid (HW4.out.keep hb)
               have hs5 := HS4.out.keep hb
               have hc3 : w5.cell? ⟨wo.heap.size, 3, none⟩ = some (.string id) := hs5.blk.cell 3
               have hc4 : w5.cell? ⟨wo.heap.size, 4, none⟩ = some (.string body) := hs5.blk.cell 4
               have HS5 := Lib.hid hs5
               have hCC := take_any b _ _ _ id w5 hs5.lb.box hq5
               rw [HP.out] at hCC
               have HCC := Lib.hid hCC
               clear HS4 HW4 hb hs5 hCC)
            | (go_at_call 12
               have _t := HCC
               refine HCC.out.mono ?_
               rintro en w6 ⟨rfl, hT⟩
               obtain ⟨v6, hs6, hF6⟩ := HS5.out.to hT
               have HW6 := Lib.hid (HS5.out.rows hF6 HW5.out)
               have HB6 := Lib.hid hs6.blk
               have HS6 := Lib.hid hs6
               clear HCC HS5 HW5 hT hs6 hF6)
            | (with_reducible refine wpList_load_blk rfl 23 (.tmp 6) rfl wo.heap.size 23 (opCells ⟨z1, z2, z3, id, body⟩).toArray _ (by with_unfolding_all rfl) HB6.out Try.underlying23 rfl (info23 _) ?_
               clear HB6)
            | (go_at_call 20
               have _t := HS6
               with_reducible refine (HKE.out _).mono ?_
               rintro en w7 ⟨rfl, hb⟩
               have HW7 := Lib.hid (HW6.out.keep hb)
               have hs7 := HS6.out.keep hb
               have HS7 := Lib.hid hs7
               have hd0 : w7.cell? ⟨wo.heap.size, 0, none⟩ = some (.int .i64 z1) := hs7.blk.cell 0
               have hd1 : w7.cell? ⟨wo.heap.size, 1, none⟩ = some (.int .i64 z2) := hs7.blk.cell 1
               have hd2 : w7.cell? ⟨wo.heap.size, 2, none⟩ = some (.int .i64 z3) := hs7.blk.cell 2
               have hd3 : w7.cell? ⟨wo.heap.size, 3, none⟩ = some (.string id) := hs7.blk.cell 3
               have hd4 : w7.cell? ⟨wo.heap.size, 4, none⟩ = some (.string body) := hs7.blk.cell 4
               clear HS6 HW6 hb hs7)
            | (go_at_call 20
               have _t := HS7
               with_reducible refine (HKE.out _).mono ?_
               rintro en w8 ⟨rfl, hb⟩
               have hs8 := HS7.out.keep hb
               have HS8 := Lib.hid hs8
               clear HS7 hs8 hb)
            | fail)
          go_roundw
          case rel =>
            have h1 := HW1.out
            have h2 := HW2.out
            exact ⟨i + 1, t, bn, _, _, by omega, by go_num, by go_num, by omega, by omega, by omega, HI2.out, HS8.out.lb, HS8.out.ops⟩
          case measure => simp [intOf]; omega
    · obtain rfl : i = n := by omega
      have hd : decide ((i : Int) < (i : Int)) = false := decide_eq_false (by omega)
      have hq5 : (isortL q).length ≤ 5 := by rw [(isortL_perm q).length_eq]; exact HI.out.len
      have hd5 : decide (((isortL q).length : Int) ≤ 5) = true := decide_eq_true (by omega)
      go_wp2_with (first
        | (go_at_call 14
           refine (all_any b _ _ _ _ HL.out.box (by have := HI.out.len; omega)).mono ?_
           rintro en w2 ⟨v2, rfl, hE, hr, hb⟩
           obtain ⟨A2, c2, hv2, -, -⟩ := hE.shape
           subst hv2)
        | fail)
      go_ret
      exact ⟨rfl, HL.out.bel.trans (hb.mono HL.out.bel.size)⟩
end Go.Proofs.Ytkagfnocpllcpaa.outboxErrors
