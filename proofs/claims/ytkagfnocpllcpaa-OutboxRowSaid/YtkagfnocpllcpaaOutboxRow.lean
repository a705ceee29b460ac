/- The law OutboxRow: all stand in the row in which they are due; never more than five; none is lost but by being taken, or given up. For every input. Written by wip/mkrow.py. -/
import Derived.Test.YtkagfnocpllcpaaRowFacts
import Derived.Test.YtkagfnocpllcpaaOutboxErrors
import Derived.Test.YtkagfnocpllcpaaFrame
namespace Go.Proofs.Ytkagfnocpllcpaa.outboxRow
open Go Go.RowKit Go.Proofs Go.Proofs.Ytkagfnocpllcpaa
set_option linter.unusedVariables false
set_option maxRecDepth 100000 in
set_option maxHeartbeats 40000000 in
theorem walk (a0 : Option Addr) (len0 cap0 : Nat) (l0 : List Op) (w : World) (w0 : IsOps w a0 len0 cap0 l0) :
    Calls Try.prog 7 #[.slice a0 len0 cap0] w fun e w' => e = .returned (.bool true) ∧ Below w.heap.size w w' := by
  have H0 := Lib.hid w0
  clear w0
  go_enter Try.func7, Try.ntmps7
  go_wp2_with (first
    | (go_at_call 9
       refine (lives_any w).mono ?_
       rintro e w1 ⟨rfl, hb1⟩)
    | (go_at_call 17
       refine (new_any _).mono ?_
       rintro e w2 ⟨rfl, hX2, hb2⟩
       have hL2 := Lb.new hX2 rfl hb2 hb1
       have HL2 := Lib.hid hL2
       have HE2 := Lib.hid (early_any a0 len0 cap0 l0 w2 (H0.out.keep hL2.bel))
       clear hX2 hb2 hL2)
    | (go_at_call 18
       refine HE2.out.mono ?_
       rintro e w3 ⟨vs, l, rfl, hO3, hl100, hfit, hrs, hb3⟩
       have HL3 := Lib.hid (HL2.out.keep hb3)
       have HO3 := Lib.hid hO3
       have HFIT := Lib.hid hfit
       obtain ⟨As, cs, hvs, hvs1, hvs2⟩ := hO3.shape
       subst hvs
       clear HL2 HE2 hO3 hfit hrs hb3)
    | fail)
  obtain ⟨b, hb⟩ : ∃ b, b = w1.heap.size := ⟨_, rfl⟩
  obtain ⟨n, hn⟩ : ∃ n, n = l.length := ⟨_, rfl⟩
  rw [← hb] at HL3 ⊢
  rw [← hn] at HO3 hl100 ⊢
  have HN := Lib.hid hn
  clear hb hb1 hn hvs1 hvs2
  go_loopw [4, 5, 6] (fun c4 c5 c6 wr => ∃ (i : Nat) (now bn mi : Int) (v : Value) (q : List E), i ≤ n ∧ c6 = .int .i64 (i : Int) ∧ c4 = .int .i64 now ∧ c5 = .int .i64 mi ∧ mi = (q.length : Int) ∧ 0 ≤ bn ∧ bn ≤ now ∧ now ≤ 40 * (i : Int) ∧ Inv q bn ∧ Lb w wr b v q bn ∧ OpsO wr (.slice As n cs) l) (fun _ _ c6 _ => n - (intOf c6).toNat)
  case atStart => exact ⟨0, 0, 0, 0, _, [], by omega, rfl, rfl, rfl, rfl, by omega, by omega, by omega, Inv.nil 0, HL3.out, HO3.out⟩
  case round =>
    obtain ⟨i, now, bn, mi, v, q, hi, rfl, rfl, rfl, hmi, hbn, hbnow, hnow, hI, hL, hO⟩ := hrel
    have HI := Lib.hid hI
    have HL := Lib.hid hL
    have HO := Lib.hid hO
    have HMI := Lib.hid hmi
    have hq5 : q.length ≤ 5 := HI.out.len
    have hmi0 : 0 ≤ mi := by omega
    have hmi5 : mi ≤ 5 := by omega
    clear hI hL hO HL3 HO3 hmi
    by_cases hin : i < n
    · have hd : decide ((i : Int) < (n : Int)) = true := decide_eq_true (by omega)
      obtain ⟨g, o, cp, hv, _, hg, hr⟩ := HO.out.at_ i (by rw [← HN.out]; exact hin)
      simp only [Value.slice.injEq] at hv
      obtain ⟨rfl, -, rfl⟩ := hv
      have hfx := HFIT.out (l.getD i default) (by have := HN.out; simp [show i < l.length by omega])
      obtain ⟨x, hx⟩ : ∃ x, x = l.getD i default := ⟨_, rfl⟩
      rw [← hx] at hr hfx
      obtain ⟨z1, z2, z3, id, body⟩ := x
      obtain ⟨hs70, ht40⟩ := hfx
      have hs70 : id.size ≤ 70 := hs70
      have hidm : id.size ≤ maxLen := by unfold maxLen; omega
      have HRR := Lib.hid hr
      obtain ⟨r, hr0, hr1, hr2, hr3⟩ := rem_u 40 (by decide) z2
      obtain ⟨t, ht⟩ : ∃ t, now + r = t := ⟨_, rfl⟩
      have htn : now ≤ t := by omega
      have htn2 : t ≤ now + 40 := by omega
      have ht0 : 0 ≤ t := by omega
      have ht1 : t ≤ 5000 := by omega
      have hbt : bn ≤ t := by omega
      have HKD := Lib.hid (fun w => kind_any ⟨z1, z2, z3, id, body⟩ w)
      obtain ⟨kd, hkd⟩ : ∃ kd, kd = kindI z1 := ⟨_, rfl⟩
      have hbd := kindI_bd z1
      rw [← hkd] at hbd
      have HKE : Hid (∀ w, Calls Try.prog 20 #[opV ⟨z1, z2, z3, id, body⟩] w fun e w' => e = .returned (.int .i64 kd) ∧ Below w.heap.size w w') := Lib.hid (by rw [hkd]; exact HKD.out)
      have HW1 := Lib.hid htn2
      have HW2 := Lib.hid hnow
      have HBT := Lib.hid hbt
      have HM2 : Hid (∀ q2 : List E, (isortL q2).length = q2.length) := Lib.hid (fun q2 => (isortL_perm q2).length_eq)
      clear hx hr HKD hkd hnow htn htn2
      rcases hbd with hk | hk | hk
      · subst hk
        rcases put_cases q bn id body t HI.out hbt with ⟨e, hp, he1, he2⟩ | ⟨hp, hi2, hl2, hl5, hni, hput⟩
        · as_aux_lemma =>
            have HP := Lib.hid hp
            obtain ⟨q2, hq2⟩ : ∃ q2, q2 = q := ⟨_, rfl⟩
            have hi2 := HI.out
            have hl2 : q2.length = q.length := by rw [hq2]
            rw [← hq2] at hi2
            have HQ2 := Lib.hid hq2
            clear hp hq2
            have hq25 : q2.length ≤ 5 := hi2.len
            have HI2 := Lib.hid hi2
            obtain ⟨m2, hm2⟩ : ∃ m2, m2 = (isortL q2).length := ⟨_, rfl⟩
            have hm2' : m2 = q2.length := hm2.trans (HM2.out q2)
            have hne : (((m2 : Nat) : Int) != mi) = false := by rw [bne_eq_false_iff_eq]; have := HMI.out; omega
            have hgt : decide ((5 : Int) < mi) = false := decide_eq_false (by have := HMI.out; omega)
            have hb5 : 0 ≤ mi := by have := HMI.out; omega
            have hb6 : mi ≤ 5 := by have := HMI.out; omega
            have HM := Lib.hid hm2
            have HMq := Lib.hid hm2'
            have HL2 := Lib.hid hl2
            clear hi2 hm2 hm2' hl2
            obtain ⟨wo, rfl⟩ : ∃ wo : World, wo = wr := ⟨_, rfl⟩
            go_wp2_with (first
              | (with_reducible refine wpList_load_mid rfl 23 (.tmp 26) rfl g (o + i * 5) (by with_unfolding_all rfl) (opCells ⟨z1, z2, z3, id, body⟩) _ HRR.out Try.underlying23 rfl (info23 _) ?_)
              | (with_reducible refine wpList_alloc_run rfl 23 rfl (opCells default).toArray zero23 ?_)
              | (refine wpList_store_blk rfl 23 (.tmp 7) (.tmp 27) rfl wo.heap.size 23 (opCells default).toArray (opCells ⟨z1, z2, z3, id, body⟩).toArray (by rfl) (by rfl) (Blk.new wo 23 _) rfl (info23 _) (one_op _) ?_
                 intro w2 hb2 hf2
                 have hF2 : Fr nob wo w2 := ((Fr.refl nob wo).alloc _).then hf2 (fun i hi => Or.inr (by unfold one at hi; omega))
                 have hc1 : w2.cell? ⟨wo.heap.size, 1, none⟩ = some (.int .i64 z2) := hb2.cell 1
                 have hs := (show Sd w w2 b v q bn _ l wo.heap.size ⟨z1, z2, z3, id, body⟩ from ⟨HL.out.keep hF2.below_nob, HO.out.keep hF2.below_nob, hb2⟩)
                 have HS := Lib.hid hs
                 have HB4 := Lib.hid hs.blk
                 clear hb2 hf2 hF2 hs)
              | (with_reducible refine wpList_load_blk rfl 23 (.tmp 7) rfl wo.heap.size 23 (opCells ⟨z1, z2, z3, id, body⟩).toArray _ (by with_unfolding_all rfl) HB4.out Try.underlying23 rfl (info23 _) ?_
                 clear HB4)
              | (go_at_call 20
                 have _t := HS
                 with_reducible refine (HKE.out _).mono ?_
                 rintro en w5 ⟨rfl, hb⟩
                 have hs5 := HS.out.keep hb
                 have hc3 : w5.cell? ⟨wo.heap.size, 3, none⟩ = some (.string id) := hs5.blk.cell 3
                 have hc4 : w5.cell? ⟨wo.heap.size, 4, none⟩ = some (.string body) := hs5.blk.cell 4
                 have HS5 := Lib.hid hs5
                 have hCC := put_any b _ _ _ id body t w5 hs5.lb.box hq5 hidm
                 rw [HP.out] at hCC
                 have HCC := Lib.hid hCC
                 clear HS hb hs5 hCC)
              | (go_at_call 11
                 have _t := HCC
                 refine HCC.out.mono ?_
                 rintro en w6 ⟨rfl, hT⟩
                 obtain ⟨v6, hs6, hF6⟩ := HS5.out.to hT
                 rw [← HQ2.out] at hs6
                 have HS6 := Lib.hid hs6
                 clear HCC HS5 hT hs6 hF6)
              | (go_at_call 14
                 refine (all_any b _ _ _ _ HS6.out.lb.box (by omega)).mono ?_
                 rintro en w8 ⟨v8, rfl, hE, hr, hb⟩
                 obtain ⟨A8, c8, hv8, -, -⟩ := hE.shape
                 have hm8 := HM.out
                 rw [← hm8] at hv8
                 subst hv8
                 have HE8 := Lib.hid hE
                 have HS8 := Lib.hid (HS6.out.keep hb)
                 clear HS6 hE hr hb hm8)
              | fail)
            obtain ⟨wT, rfl⟩ : ∃ wT : World, wT = w8 := ⟨_, rfl⟩
            go_loopw [12] (fun c12 wr => ∃ k : Nat, k ≤ m2 ∧ c12 = .int .i64 (k : Int) ∧ Below wT.heap.size wT wr) (fun c12 _ => m2 - (intOf c12).toNat)
            case atStart => exact ⟨0, by omega, rfl, Below.refl _ _⟩
            case round =>
              obtain ⟨k, hk, rfl, hbT⟩ := hrel
              by_cases hkm : k < m2
              · have hdk : decide ((k : Int) < (m2 : Int)) = true := decide_eq_true (by omega)
                have hkL : k < (isortL q2).length := by rw [← HM.out]; exact hkm
                have hk0 : (0 : Int) ≤ (k : Int) := by omega
                obtain ⟨gy, oy, cy, hvy, -, hgy, hry, -⟩ := HE8.out.at_ k hkL
                simp only [Value.slice.injEq] at hvy
                obtain ⟨rfl, -, rfl⟩ := hvy
                obtain ⟨ha1, ha2, ha3⟩ := row_at HI2.out (show bn ≤ t from HBT.out) k hkL
                have hby : Below wT.heap.size wT wr := hbT
                have hry' := rangeAt_below hry hbT hgy
                have hgr : gy < wr.heap.size := Nat.lt_of_lt_of_le hgy hbT.size
                have hsr := HS8.out.keep hbT
                have RO := Lib.hid (Regrown.range (rangeAt_of_blk hsr.blk) hsr.blk.lt)
                have hd0 : wr.cell? ⟨wo.heap.size, 0, none⟩ = some (.int .i64 z1) := hsr.blk.cell 0
                have hd1 : wr.cell? ⟨wo.heap.size, 1, none⟩ = some (.int .i64 z2) := hsr.blk.cell 1
                have hd2 : wr.cell? ⟨wo.heap.size, 2, none⟩ = some (.int .i64 z3) := hsr.blk.cell 2
                have hd3 : wr.cell? ⟨wo.heap.size, 3, none⟩ = some (.string id) := hsr.blk.cell 3
                have hd4 : wr.cell? ⟨wo.heap.size, 4, none⟩ = some (.string body) := hsr.blk.cell 4
                have hlo : wo.heap.size < wr.heap.size := hsr.blk.lt
                obtain ⟨y, hy⟩ : ∃ y, y = (isortL q2).getD k default := ⟨_, rfl⟩
                have hy0 : wr.cell? ⟨gy, oy + k * 5, none⟩ = some (.string ((isortL q2).getD k default).id) := hry' 0 _ rfl
                have hy2 : wr.cell? ⟨gy, oy + k * 5 + 2, none⟩ = some (.int .i64 ((isortL q2).getD k default).due) := hry' 2 _ rfl
                have hy3 : wr.cell? ⟨gy, oy + k * 5 + 3, none⟩ = some (.int .i64 ((isortL q2).getD k default).tries) := hry' 3 _ rfl
                have hy4 : wr.cell? ⟨gy, oy + k * 5 + 4, none⟩ = some (.int .i64 ((isortL q2).getD k default).put) := hry' 4 _ rfl
                rw [← hy] at ha1 ha2 ha3 hy0 hy2 hy3 hy4
                have hf1 : decide ((6 : Int) < y.tries) = false := decide_eq_false (by omega)
                have hf2 : decide (t < y.put) = false := decide_eq_false (by omega)
                have HBT2 := Lib.hid hbT
                have HSR := Lib.hid hsr
                by_cases hk1 : k = 0
                · subst hk1
                  clear hkL hy hby hry hry' hsr hbT
                  have hf0 : decide ((0 : Int) < ((0 : Nat) : Int)) = false := by decide
                  go_wp2_with fail
                  refine wp_region_quiet_below (by kernel_rfl) (by kernel_rfl) ?_
                  repeat (go_big_quiet_step ((go_at_call 20; with_reducible exact regrown_below (HKE.out _))))
                  refine wpQuiet_nil ?_
                  intro w9 hw9
                  have hb9 := Re.below hw9
                  clear hw9
                  go_wp2_with fail
                  go_roundw
                  case rel => exact ⟨1, by omega, by go_num, HBT2.out.trans (hb9.mono HBT2.out.size)⟩
                  case measure => simp [intOf]; omega
                · obtain ⟨j, hj⟩ : ∃ j, k = j + 1 := ⟨k - 1, by omega⟩
                  have hf0 : decide ((0 : Int) < (k : Int)) = true := decide_eq_true (by omega)
                  have hf00 : decide (0 < k) = true := decide_eq_true (by omega)
                  have hkp : 0 < k := by omega
                  have hk5 : k ≤ 5 := by have := HMq.out; omega
                  have hn1 := row_next HI2.out j (by omega)
                  obtain ⟨gx, ox, cx, hvx, -, hgx, hrx, -⟩ := HE8.out.at_ j (by omega)
                  simp only [Value.slice.injEq, Option.some.injEq, Addr.mk.injEq] at hvx
                  obtain ⟨⟨rfl, rfl, -⟩, -, -⟩ := hvx
                  have hrx' := rangeAt_below hrx HBT2.out hgx
                  rw [← hj, ← hy] at hn1
                  obtain ⟨hn1, hn2⟩ := hn1
                  have hx0 : wr.cell? ⟨gy, oy + j * 5, none⟩ = some (.string ((isortL q2).getD j default).id) := hrx' 0 _ rfl
                  have hx2 : wr.cell? ⟨gy, oy + j * 5 + 2, none⟩ = some (.int .i64 ((isortL q2).getD j default).due) := hrx' 2 _ rfl
                  obtain ⟨x, hx⟩ : ∃ x, x = (isortL q2).getD j default := ⟨_, rfl⟩
                  rw [← hx] at hn1 hn2 hx0 hx2
                  have hf4 : decide (y.due < x.due) = false := decide_eq_false (by omega)
                  have hj1 : ((k : Int) - 1).toNat = j := by omega
                  have hj2 : (0 : Int) ≤ (k : Int) - 1 := by omega
                  have hj3 : (k : Int) - 1 < (m2 : Int) := by omega
                  clear hkL hy hby hry hry' hsr hbT hj hrx hrx' hx
                  go_wp2_with fail
                  refine wp_region_quiet_below (by kernel_rfl) (by kernel_rfl) ?_
                  repeat (go_big_quiet_step ((go_at_call 20; with_reducible exact regrown_below (HKE.out _))))
                  refine wpQuiet_nil ?_
                  intro w9 hw9
                  have hb9 := Re.below hw9
                  clear hw9
                  go_wp2_with fail
                  go_roundw
                  case rel => exact ⟨k + 1, by omega, by go_num, HBT2.out.trans (hb9.mono HBT2.out.size)⟩
                  case measure => simp [intOf]; omega
              · obtain rfl : k = m2 := by omega
                have hdk : decide ((k : Int) < (k : Int)) = false := decide_eq_false (by omega)
                have hsr := HS8.out.keep hbT
                have HSR := Lib.hid hsr
                clear hsr hbT
                go_wp2_with fail
                go_roundw
                case rel =>
                  have h1 := HW1.out
                  have h2 := HW2.out
                  have h3 := HBT.out
                  have h4 := HL2.out
                  have h5 := HMI.out
                  exact ⟨i + 1, t, bn, mi, _, q2, by omega, by go_num, by go_num, by go_num, by omega, by omega, by omega, by omega, HI2.out, HSR.out.lb, HSR.out.ops⟩
                case measure => simp [intOf]; omega
        · as_aux_lemma =>
            have HP := Lib.hid hp
            obtain ⟨q2, hq2⟩ : ∃ q2, q2 = Hp.pushL ltE q ⟨id, body, t, 0, t⟩ := ⟨_, rfl⟩
            rw [← hq2] at HP hi2 hl2
            clear hp hput hni hq2
            have hq25 : q2.length ≤ 5 := hi2.len
            have HI2 := Lib.hid hi2
            obtain ⟨m2, hm2⟩ : ∃ m2, m2 = (isortL q2).length := ⟨_, rfl⟩
            have hm2' : m2 = q2.length := hm2.trans (HM2.out q2)
            have hne : (((m2 : Nat) : Int) != mi + 1) = false := by rw [bne_eq_false_iff_eq]; have := HMI.out; omega
            have hgt : decide ((5 : Int) < mi + 1) = false := decide_eq_false (by have := HMI.out; omega)
            have hb5 : 0 ≤ mi + 1 := by have := HMI.out; omega
            have hb6 : mi + 1 ≤ 5 := by have := HMI.out; omega
            have HM := Lib.hid hm2
            have HMq := Lib.hid hm2'
            have HL2 := Lib.hid hl2
            clear hi2 hm2 hm2' hl2
            obtain ⟨wo, rfl⟩ : ∃ wo : World, wo = wr := ⟨_, rfl⟩
            go_wp2_with (first
              | (with_reducible refine wpList_load_mid rfl 23 (.tmp 26) rfl g (o + i * 5) (by with_unfolding_all rfl) (opCells ⟨z1, z2, z3, id, body⟩) _ HRR.out Try.underlying23 rfl (info23 _) ?_)
              | (with_reducible refine wpList_alloc_run rfl 23 rfl (opCells default).toArray zero23 ?_)
              | (refine wpList_store_blk rfl 23 (.tmp 7) (.tmp 27) rfl wo.heap.size 23 (opCells default).toArray (opCells ⟨z1, z2, z3, id, body⟩).toArray (by rfl) (by rfl) (Blk.new wo 23 _) rfl (info23 _) (one_op _) ?_
                 intro w2 hb2 hf2
                 have hF2 : Fr nob wo w2 := ((Fr.refl nob wo).alloc _).then hf2 (fun i hi => Or.inr (by unfold one at hi; omega))
                 have hc1 : w2.cell? ⟨wo.heap.size, 1, none⟩ = some (.int .i64 z2) := hb2.cell 1
                 have hs := (show Sd w w2 b v q bn _ l wo.heap.size ⟨z1, z2, z3, id, body⟩ from ⟨HL.out.keep hF2.below_nob, HO.out.keep hF2.below_nob, hb2⟩)
                 have HS := Lib.hid hs
                 have HB4 := Lib.hid hs.blk
                 clear hb2 hf2 hF2 hs)
              | (with_reducible refine wpList_load_blk rfl 23 (.tmp 7) rfl wo.heap.size 23 (opCells ⟨z1, z2, z3, id, body⟩).toArray _ (by with_unfolding_all rfl) HB4.out Try.underlying23 rfl (info23 _) ?_
                 clear HB4)
              | (go_at_call 20
                 have _t := HS
                 with_reducible refine (HKE.out _).mono ?_
                 rintro en w5 ⟨rfl, hb⟩
                 have hs5 := HS.out.keep hb
                 have hc3 : w5.cell? ⟨wo.heap.size, 3, none⟩ = some (.string id) := hs5.blk.cell 3
                 have hc4 : w5.cell? ⟨wo.heap.size, 4, none⟩ = some (.string body) := hs5.blk.cell 4
                 have HS5 := Lib.hid hs5
                 have hCC := put_any b _ _ _ id body t w5 hs5.lb.box hq5 hidm
                 rw [HP.out] at hCC
                 have HCC := Lib.hid hCC
                 clear HS hb hs5 hCC)
              | (go_at_call 11
                 have _t := HCC
                 refine HCC.out.mono ?_
                 rintro en w6 ⟨rfl, hT⟩
                 obtain ⟨v6, hs6, hF6⟩ := HS5.out.to hT
                 have HS6 := Lib.hid hs6
                 clear HCC HS5 hT hs6 hF6)
              | (go_at_call 14
                 refine (all_any b _ _ _ _ HS6.out.lb.box (by omega)).mono ?_
                 rintro en w8 ⟨v8, rfl, hE, hr, hb⟩
                 obtain ⟨A8, c8, hv8, -, -⟩ := hE.shape
                 have hm8 := HM.out
                 rw [← hm8] at hv8
                 subst hv8
                 have HE8 := Lib.hid hE
                 have HS8 := Lib.hid (HS6.out.keep hb)
                 clear HS6 hE hr hb hm8)
              | fail)
            obtain ⟨wT, rfl⟩ : ∃ wT : World, wT = w8 := ⟨_, rfl⟩
            go_loopw [12] (fun c12 wr => ∃ k : Nat, k ≤ m2 ∧ c12 = .int .i64 (k : Int) ∧ Below wT.heap.size wT wr) (fun c12 _ => m2 - (intOf c12).toNat)
            case atStart => exact ⟨0, by omega, rfl, Below.refl _ _⟩
            case round =>
              obtain ⟨k, hk, rfl, hbT⟩ := hrel
              by_cases hkm : k < m2
              · have hdk : decide ((k : Int) < (m2 : Int)) = true := decide_eq_true (by omega)
                have hkL : k < (isortL q2).length := by rw [← HM.out]; exact hkm
                have hk0 : (0 : Int) ≤ (k : Int) := by omega
                obtain ⟨gy, oy, cy, hvy, -, hgy, hry, -⟩ := HE8.out.at_ k hkL
                simp only [Value.slice.injEq] at hvy
                obtain ⟨rfl, -, rfl⟩ := hvy
                obtain ⟨ha1, ha2, ha3⟩ := row_at HI2.out (show t ≤ t from Int.le_refl _) k hkL
                have hby : Below wT.heap.size wT wr := hbT
                have hry' := rangeAt_below hry hbT hgy
                have hgr : gy < wr.heap.size := Nat.lt_of_lt_of_le hgy hbT.size
                have hsr := HS8.out.keep hbT
                have RO := Lib.hid (Regrown.range (rangeAt_of_blk hsr.blk) hsr.blk.lt)
                have hd0 : wr.cell? ⟨wo.heap.size, 0, none⟩ = some (.int .i64 z1) := hsr.blk.cell 0
                have hd1 : wr.cell? ⟨wo.heap.size, 1, none⟩ = some (.int .i64 z2) := hsr.blk.cell 1
                have hd2 : wr.cell? ⟨wo.heap.size, 2, none⟩ = some (.int .i64 z3) := hsr.blk.cell 2
                have hd3 : wr.cell? ⟨wo.heap.size, 3, none⟩ = some (.string id) := hsr.blk.cell 3
                have hd4 : wr.cell? ⟨wo.heap.size, 4, none⟩ = some (.string body) := hsr.blk.cell 4
                have hlo : wo.heap.size < wr.heap.size := hsr.blk.lt
                obtain ⟨y, hy⟩ : ∃ y, y = (isortL q2).getD k default := ⟨_, rfl⟩
                have hy0 : wr.cell? ⟨gy, oy + k * 5, none⟩ = some (.string ((isortL q2).getD k default).id) := hry' 0 _ rfl
                have hy2 : wr.cell? ⟨gy, oy + k * 5 + 2, none⟩ = some (.int .i64 ((isortL q2).getD k default).due) := hry' 2 _ rfl
                have hy3 : wr.cell? ⟨gy, oy + k * 5 + 3, none⟩ = some (.int .i64 ((isortL q2).getD k default).tries) := hry' 3 _ rfl
                have hy4 : wr.cell? ⟨gy, oy + k * 5 + 4, none⟩ = some (.int .i64 ((isortL q2).getD k default).put) := hry' 4 _ rfl
                rw [← hy] at ha1 ha2 ha3 hy0 hy2 hy3 hy4
                have hf1 : decide ((6 : Int) < y.tries) = false := decide_eq_false (by omega)
                have hf2 : decide (t < y.put) = false := decide_eq_false (by omega)
                have HBT2 := Lib.hid hbT
                have HSR := Lib.hid hsr
                by_cases hk1 : k = 0
                · subst hk1
                  clear hkL hy hby hry hry' hsr hbT
                  have hf0 : decide ((0 : Int) < ((0 : Nat) : Int)) = false := by decide
                  go_wp2_with fail
                  refine wp_region_quiet_below (by kernel_rfl) (by kernel_rfl) ?_
                  repeat (go_big_quiet_step ((go_at_call 20; with_reducible exact regrown_below (HKE.out _))))
                  refine wpQuiet_nil ?_
                  intro w9 hw9
                  have hb9 := Re.below hw9
                  clear hw9
                  go_wp2_with fail
                  go_roundw
                  case rel => exact ⟨1, by omega, by go_num, HBT2.out.trans (hb9.mono HBT2.out.size)⟩
                  case measure => simp [intOf]; omega
                · obtain ⟨j, hj⟩ : ∃ j, k = j + 1 := ⟨k - 1, by omega⟩
                  have hf0 : decide ((0 : Int) < (k : Int)) = true := decide_eq_true (by omega)
                  have hf00 : decide (0 < k) = true := decide_eq_true (by omega)
                  have hkp : 0 < k := by omega
                  have hk5 : k ≤ 5 := by have := HMq.out; omega
                  have hn1 := row_next HI2.out j (by omega)
                  obtain ⟨gx, ox, cx, hvx, -, hgx, hrx, -⟩ := HE8.out.at_ j (by omega)
                  simp only [Value.slice.injEq, Option.some.injEq, Addr.mk.injEq] at hvx
                  obtain ⟨⟨rfl, rfl, -⟩, -, -⟩ := hvx
                  have hrx' := rangeAt_below hrx HBT2.out hgx
                  rw [← hj, ← hy] at hn1
                  obtain ⟨hn1, hn2⟩ := hn1
                  have hx0 : wr.cell? ⟨gy, oy + j * 5, none⟩ = some (.string ((isortL q2).getD j default).id) := hrx' 0 _ rfl
                  have hx2 : wr.cell? ⟨gy, oy + j * 5 + 2, none⟩ = some (.int .i64 ((isortL q2).getD j default).due) := hrx' 2 _ rfl
                  obtain ⟨x, hx⟩ : ∃ x, x = (isortL q2).getD j default := ⟨_, rfl⟩
                  rw [← hx] at hn1 hn2 hx0 hx2
                  have hf4 : decide (y.due < x.due) = false := decide_eq_false (by omega)
                  have hj1 : ((k : Int) - 1).toNat = j := by omega
                  have hj2 : (0 : Int) ≤ (k : Int) - 1 := by omega
                  have hj3 : (k : Int) - 1 < (m2 : Int) := by omega
                  clear hkL hy hby hry hry' hsr hbT hj hrx hrx' hx
                  go_wp2_with fail
                  refine wp_region_quiet_below (by kernel_rfl) (by kernel_rfl) ?_
                  repeat (go_big_quiet_step ((go_at_call 20; with_reducible exact regrown_below (HKE.out _))))
                  refine wpQuiet_nil ?_
                  intro w9 hw9
                  have hb9 := Re.below hw9
                  clear hw9
                  go_wp2_with fail
                  go_roundw
                  case rel => exact ⟨k + 1, by omega, by go_num, HBT2.out.trans (hb9.mono HBT2.out.size)⟩
                  case measure => simp [intOf]; omega
              · obtain rfl : k = m2 := by omega
                have hdk : decide ((k : Int) < (k : Int)) = false := decide_eq_false (by omega)
                have hsr := HS8.out.keep hbT
                have HSR := Lib.hid hsr
                clear hsr hbT
                go_wp2_with fail
                go_roundw
                case rel =>
                  have h1 := HW1.out
                  have h2 := HW2.out
                  have h3 := HBT.out
                  have h4 := HL2.out
                  have h5 := HMI.out
                  exact ⟨i + 1, t, t, mi + 1, _, q2, by omega, by go_num, by go_num, by go_num, by omega, by omega, by omega, by omega, HI2.out, HSR.out.lb, HSR.out.ops⟩
                case measure => simp [intOf]; omega
      · subst hk
        obtain ⟨hp, hi2, hl2, hlt2⟩ := try_cases q bn t HI.out hbt ht1
        as_aux_lemma =>
            have HP := Lib.hid hp
            obtain ⟨q2, hq2⟩ : ∃ q2, q2 = (tryF bn t q).2.2.2.1 := ⟨_, rfl⟩
            rw [← hq2] at HP hi2 hl2 hlt2
            obtain ⟨gs, hgs⟩ : ∃ gs, gs = goneL (dueL t q).1 := ⟨_, rfl⟩
            rw [← hgs] at HP hl2
            obtain ⟨os, hos⟩ : ∃ os, os = outL t (dueL t q).1 := ⟨_, rfl⟩
            rw [← hos] at HP
            obtain ⟨gl, hgl⟩ : ∃ gl, gl = gs.length := ⟨_, rfl⟩
            rw [← hgl] at hl2
            have HGL := Lib.hid hgl
            have HLT := Lib.hid hlt2
            clear hp hq2 hgs hos hgl hlt2
            have hq25 : q2.length ≤ 5 := hi2.len
            have HI2 := Lib.hid hi2
            obtain ⟨m2, hm2⟩ : ∃ m2, m2 = (isortL q2).length := ⟨_, rfl⟩
            have hm2' : m2 = q2.length := hm2.trans (HM2.out q2)
            have hne : (((m2 : Nat) : Int) != mi - (gl : Int)) = false := by rw [bne_eq_false_iff_eq]; have := HMI.out; omega
            have hgt : decide ((5 : Int) < mi - (gl : Int)) = false := decide_eq_false (by have := HMI.out; omega)
            have hb5 : 0 ≤ mi - (gl : Int) := by have := HMI.out; omega
            have hb6 : mi - (gl : Int) ≤ 5 := by have := HMI.out; omega
            have HM := Lib.hid hm2
            have HMq := Lib.hid hm2'
            have HL2 := Lib.hid hl2
            clear hi2 hm2 hm2' hl2
            obtain ⟨wo, rfl⟩ : ∃ wo : World, wo = wr := ⟨_, rfl⟩
            go_wp2_with (first
              | (with_reducible refine wpList_load_mid rfl 23 (.tmp 26) rfl g (o + i * 5) (by with_unfolding_all rfl) (opCells ⟨z1, z2, z3, id, body⟩) _ HRR.out Try.underlying23 rfl (info23 _) ?_)
              | (with_reducible refine wpList_alloc_run rfl 23 rfl (opCells default).toArray zero23 ?_)
              | (refine wpList_store_blk rfl 23 (.tmp 7) (.tmp 27) rfl wo.heap.size 23 (opCells default).toArray (opCells ⟨z1, z2, z3, id, body⟩).toArray (by rfl) (by rfl) (Blk.new wo 23 _) rfl (info23 _) (one_op _) ?_
                 intro w2 hb2 hf2
                 have hF2 : Fr nob wo w2 := ((Fr.refl nob wo).alloc _).then hf2 (fun i hi => Or.inr (by unfold one at hi; omega))
                 have hc1 : w2.cell? ⟨wo.heap.size, 1, none⟩ = some (.int .i64 z2) := hb2.cell 1
                 have hs := (show Sd w w2 b v q bn _ l wo.heap.size ⟨z1, z2, z3, id, body⟩ from ⟨HL.out.keep hF2.below_nob, HO.out.keep hF2.below_nob, hb2⟩)
                 have HS := Lib.hid hs
                 have HB4 := Lib.hid hs.blk
                 clear hb2 hf2 hF2 hs)
              | (with_reducible refine wpList_load_blk rfl 23 (.tmp 7) rfl wo.heap.size 23 (opCells ⟨z1, z2, z3, id, body⟩).toArray _ (by with_unfolding_all rfl) HB4.out Try.underlying23 rfl (info23 _) ?_
                 clear HB4)
              | (go_at_call 20
                 have _t := HS
                 with_reducible refine (HKE.out _).mono ?_
                 rintro en w5 ⟨rfl, hb⟩
                 have hs5 := HS.out.keep hb
                 have hc3 : w5.cell? ⟨wo.heap.size, 3, none⟩ = some (.string id) := hs5.blk.cell 3
                 have hc4 : w5.cell? ⟨wo.heap.size, 4, none⟩ = some (.string body) := hs5.blk.cell 4
                 have HS5 := Lib.hid hs5
                 have hCC := try_any b _ _ _ t w5 hs5.lb.box hq5 hbn (tries_ok HI.out t)
                 rw [HP.out] at hCC
                 have HCC := Lib.hid hCC
                 clear HS hb hs5 hCC)
              | (go_at_call 10
                 have _t := HCC
                 refine HCC.out.mono ?_
                 rintro en w6 ⟨⟨vo, vg, rfl, hO6, hG6⟩, hT⟩
                 obtain ⟨A6, c6, hv6, -, -⟩ := hO6.ents.shape
                 obtain ⟨B6, d6, hw6, -, -⟩ := hG6.own.shape
                 have hgl6 := HGL.out
                 simp only [← hgl6] at hw6
                 subst hv6
                 subst hw6
                 obtain ⟨v6, hs6, hF6⟩ := HS5.out.to hT
                 have HS6 := Lib.hid hs6
                 clear HCC HS5 hT hs6 hF6 hO6 hG6 hgl6)
              | (go_at_call 14
                 refine (all_any b _ _ _ _ HS6.out.lb.box (by omega)).mono ?_
                 rintro en w8 ⟨v8, rfl, hE, hr, hb⟩
                 obtain ⟨A8, c8, hv8, -, -⟩ := hE.shape
                 have hm8 := HM.out
                 rw [← hm8] at hv8
                 subst hv8
                 have HE8 := Lib.hid hE
                 have HS8 := Lib.hid (HS6.out.keep hb)
                 clear HS6 hE hr hb hm8)
              | fail)
            obtain ⟨wT, rfl⟩ : ∃ wT : World, wT = w8 := ⟨_, rfl⟩
            go_loopw [12] (fun c12 wr => ∃ k : Nat, k ≤ m2 ∧ c12 = .int .i64 (k : Int) ∧ Below wT.heap.size wT wr) (fun c12 _ => m2 - (intOf c12).toNat)
            case atStart => exact ⟨0, by omega, rfl, Below.refl _ _⟩
            case round =>
              obtain ⟨k, hk, rfl, hbT⟩ := hrel
              by_cases hkm : k < m2
              · have hdk : decide ((k : Int) < (m2 : Int)) = true := decide_eq_true (by omega)
                have hkL : k < (isortL q2).length := by rw [← HM.out]; exact hkm
                have hk0 : (0 : Int) ≤ (k : Int) := by omega
                obtain ⟨gy, oy, cy, hvy, -, hgy, hry, -⟩ := HE8.out.at_ k hkL
                simp only [Value.slice.injEq] at hvy
                obtain ⟨rfl, -, rfl⟩ := hvy
                obtain ⟨ha1, ha2, ha3⟩ := row_at HI2.out (show t ≤ t from Int.le_refl _) k hkL
                have hlate := row_late' HLT.out k hkL
                have hby : Below wT.heap.size wT wr := hbT
                have hry' := rangeAt_below hry hbT hgy
                have hgr : gy < wr.heap.size := Nat.lt_of_lt_of_le hgy hbT.size
                have hsr := HS8.out.keep hbT
                have RO := Lib.hid (Regrown.range (rangeAt_of_blk hsr.blk) hsr.blk.lt)
                have hd0 : wr.cell? ⟨wo.heap.size, 0, none⟩ = some (.int .i64 z1) := hsr.blk.cell 0
                have hd1 : wr.cell? ⟨wo.heap.size, 1, none⟩ = some (.int .i64 z2) := hsr.blk.cell 1
                have hd2 : wr.cell? ⟨wo.heap.size, 2, none⟩ = some (.int .i64 z3) := hsr.blk.cell 2
                have hd3 : wr.cell? ⟨wo.heap.size, 3, none⟩ = some (.string id) := hsr.blk.cell 3
                have hd4 : wr.cell? ⟨wo.heap.size, 4, none⟩ = some (.string body) := hsr.blk.cell 4
                have hlo : wo.heap.size < wr.heap.size := hsr.blk.lt
                obtain ⟨y, hy⟩ : ∃ y, y = (isortL q2).getD k default := ⟨_, rfl⟩
                have hy0 : wr.cell? ⟨gy, oy + k * 5, none⟩ = some (.string ((isortL q2).getD k default).id) := hry' 0 _ rfl
                have hy2 : wr.cell? ⟨gy, oy + k * 5 + 2, none⟩ = some (.int .i64 ((isortL q2).getD k default).due) := hry' 2 _ rfl
                have hy3 : wr.cell? ⟨gy, oy + k * 5 + 3, none⟩ = some (.int .i64 ((isortL q2).getD k default).tries) := hry' 3 _ rfl
                have hy4 : wr.cell? ⟨gy, oy + k * 5 + 4, none⟩ = some (.int .i64 ((isortL q2).getD k default).put) := hry' 4 _ rfl
                rw [← hy] at ha1 ha2 ha3 hy0 hy2 hy3 hy4 hlate
                have hf1 : decide ((6 : Int) < y.tries) = false := decide_eq_false (by omega)
                have hf2 : decide (t < y.put) = false := decide_eq_false (by omega)
                have hf3 : decide (y.due ≤ t) = false := decide_eq_false (by omega)
                have HBT2 := Lib.hid hbT
                have HSR := Lib.hid hsr
                by_cases hk1 : k = 0
                · subst hk1
                  clear hkL hy hby hry hry' hsr hbT
                  have hf0 : decide ((0 : Int) < ((0 : Nat) : Int)) = false := by decide
                  go_wp2_with fail
                  refine wp_region_quiet_below (by kernel_rfl) (by kernel_rfl) ?_
                  repeat (go_big_quiet_step ((go_at_call 20; with_reducible exact regrown_below (HKE.out _))))
                  refine wpQuiet_nil ?_
                  intro w9 hw9
                  have hb9 := Re.below hw9
                  clear hw9
                  go_wp2_with fail
                  go_roundw
                  case rel => exact ⟨1, by omega, by go_num, HBT2.out.trans (hb9.mono HBT2.out.size)⟩
                  case measure => simp [intOf]; omega
                · obtain ⟨j, hj⟩ : ∃ j, k = j + 1 := ⟨k - 1, by omega⟩
                  have hf0 : decide ((0 : Int) < (k : Int)) = true := decide_eq_true (by omega)
                  have hf00 : decide (0 < k) = true := decide_eq_true (by omega)
                  have hkp : 0 < k := by omega
                  have hk5 : k ≤ 5 := by have := HMq.out; omega
                  have hn1 := row_next HI2.out j (by omega)
                  obtain ⟨gx, ox, cx, hvx, -, hgx, hrx, -⟩ := HE8.out.at_ j (by omega)
                  simp only [Value.slice.injEq, Option.some.injEq, Addr.mk.injEq] at hvx
                  obtain ⟨⟨rfl, rfl, -⟩, -, -⟩ := hvx
                  have hrx' := rangeAt_below hrx HBT2.out hgx
                  rw [← hj, ← hy] at hn1
                  obtain ⟨hn1, hn2⟩ := hn1
                  have hx0 : wr.cell? ⟨gy, oy + j * 5, none⟩ = some (.string ((isortL q2).getD j default).id) := hrx' 0 _ rfl
                  have hx2 : wr.cell? ⟨gy, oy + j * 5 + 2, none⟩ = some (.int .i64 ((isortL q2).getD j default).due) := hrx' 2 _ rfl
                  obtain ⟨x, hx⟩ : ∃ x, x = (isortL q2).getD j default := ⟨_, rfl⟩
                  rw [← hx] at hn1 hn2 hx0 hx2
                  have hf4 : decide (y.due < x.due) = false := decide_eq_false (by omega)
                  have hj1 : ((k : Int) - 1).toNat = j := by omega
                  have hj2 : (0 : Int) ≤ (k : Int) - 1 := by omega
                  have hj3 : (k : Int) - 1 < (m2 : Int) := by omega
                  clear hkL hy hby hry hry' hsr hbT hj hrx hrx' hx
                  go_wp2_with fail
                  refine wp_region_quiet_below (by kernel_rfl) (by kernel_rfl) ?_
                  repeat (go_big_quiet_step ((go_at_call 20; with_reducible exact regrown_below (HKE.out _))))
                  refine wpQuiet_nil ?_
                  intro w9 hw9
                  have hb9 := Re.below hw9
                  clear hw9
                  go_wp2_with fail
                  go_roundw
                  case rel => exact ⟨k + 1, by omega, by go_num, HBT2.out.trans (hb9.mono HBT2.out.size)⟩
                  case measure => simp [intOf]; omega
              · obtain rfl : k = m2 := by omega
                have hdk : decide ((k : Int) < (k : Int)) = false := decide_eq_false (by omega)
                have hsr := HS8.out.keep hbT
                have HSR := Lib.hid hsr
                clear hsr hbT
                go_wp2_with fail
                go_roundw
                case rel =>
                  have h1 := HW1.out
                  have h2 := HW2.out
                  have h3 := HBT.out
                  have h4 := HL2.out
                  have h5 := HMI.out
                  exact ⟨i + 1, t, t, mi - (gl : Int), _, q2, by omega, by go_num, by go_num, by go_num, by omega, by omega, by omega, by omega, HI2.out, HSR.out.lb, HSR.out.ops⟩
                case measure => simp [intOf]; omega
      · subst hk
        rcases take_cases q bn id HI.out with hp | ⟨hp, hi2, hl2⟩
        · as_aux_lemma =>
            have HP := Lib.hid hp
            obtain ⟨q2, hq2⟩ : ∃ q2, q2 = q := ⟨_, rfl⟩
            have hi2 := HI.out
            have hl2 : q2.length = q.length := by rw [hq2]
            rw [← hq2] at hi2
            have HQ2 := Lib.hid hq2
            clear hp hq2
            have hq25 : q2.length ≤ 5 := hi2.len
            have HI2 := Lib.hid hi2
            obtain ⟨m2, hm2⟩ : ∃ m2, m2 = (isortL q2).length := ⟨_, rfl⟩
            have hm2' : m2 = q2.length := hm2.trans (HM2.out q2)
            have hne : (((m2 : Nat) : Int) != mi) = false := by rw [bne_eq_false_iff_eq]; have := HMI.out; omega
            have hgt : decide ((5 : Int) < mi) = false := decide_eq_false (by have := HMI.out; omega)
            have hb5 : 0 ≤ mi := by have := HMI.out; omega
            have hb6 : mi ≤ 5 := by have := HMI.out; omega
            have HM := Lib.hid hm2
            have HMq := Lib.hid hm2'
            have HL2 := Lib.hid hl2
            clear hi2 hm2 hm2' hl2
            obtain ⟨wo, rfl⟩ : ∃ wo : World, wo = wr := ⟨_, rfl⟩
            go_wp2_with (first
              | (with_reducible refine wpList_load_mid rfl 23 (.tmp 26) rfl g (o + i * 5) (by with_unfolding_all rfl) (opCells ⟨z1, z2, z3, id, body⟩) _ HRR.out Try.underlying23 rfl (info23 _) ?_)
              | (with_reducible refine wpList_alloc_run rfl 23 rfl (opCells default).toArray zero23 ?_)
              | (refine wpList_store_blk rfl 23 (.tmp 7) (.tmp 27) rfl wo.heap.size 23 (opCells default).toArray (opCells ⟨z1, z2, z3, id, body⟩).toArray (by rfl) (by rfl) (Blk.new wo 23 _) rfl (info23 _) (one_op _) ?_
                 intro w2 hb2 hf2
                 have hF2 : Fr nob wo w2 := ((Fr.refl nob wo).alloc _).then hf2 (fun i hi => Or.inr (by unfold one at hi; omega))
                 have hc1 : w2.cell? ⟨wo.heap.size, 1, none⟩ = some (.int .i64 z2) := hb2.cell 1
                 have hs := (show Sd w w2 b v q bn _ l wo.heap.size ⟨z1, z2, z3, id, body⟩ from ⟨HL.out.keep hF2.below_nob, HO.out.keep hF2.below_nob, hb2⟩)
                 have HS := Lib.hid hs
                 have HB4 := Lib.hid hs.blk
                 clear hb2 hf2 hF2 hs)
              | (with_reducible refine wpList_load_blk rfl 23 (.tmp 7) rfl wo.heap.size 23 (opCells ⟨z1, z2, z3, id, body⟩).toArray _ (by with_unfolding_all rfl) HB4.out Try.underlying23 rfl (info23 _) ?_
                 clear HB4)
              | (go_at_call 20
                 have _t := HS
                 with_reducible refine (HKE.out _).mono ?_
                 rintro en w5 ⟨rfl, hb⟩
                 have hs5 := HS.out.keep hb
                 have hc3 : w5.cell? ⟨wo.heap.size, 3, none⟩ = some (.string id) := hs5.blk.cell 3
                 have hc4 : w5.cell? ⟨wo.heap.size, 4, none⟩ = some (.string body) := hs5.blk.cell 4
                 have HS5 := Lib.hid hs5
                 have hCC := take_any b _ _ _ id w5 hs5.lb.box hq5
                 rw [HP.out] at hCC
                 have HCC := Lib.hid hCC
                 clear HS hb hs5 hCC)
              | (go_at_call 12
                 have _t := HCC
                 refine HCC.out.mono ?_
                 rintro en w6 ⟨rfl, hT⟩
                 obtain ⟨v6, hs6, hF6⟩ := HS5.out.to hT
                 rw [← HQ2.out] at hs6
                 have HS6 := Lib.hid hs6
                 clear HCC HS5 hT hs6 hF6)
              | (go_at_call 14
                 refine (all_any b _ _ _ _ HS6.out.lb.box (by omega)).mono ?_
                 rintro en w8 ⟨v8, rfl, hE, hr, hb⟩
                 obtain ⟨A8, c8, hv8, -, -⟩ := hE.shape
                 have hm8 := HM.out
                 rw [← hm8] at hv8
                 subst hv8
                 have HE8 := Lib.hid hE
                 have HS8 := Lib.hid (HS6.out.keep hb)
                 clear HS6 hE hr hb hm8)
              | fail)
            obtain ⟨wT, rfl⟩ : ∃ wT : World, wT = w8 := ⟨_, rfl⟩
            go_loopw [12] (fun c12 wr => ∃ k : Nat, k ≤ m2 ∧ c12 = .int .i64 (k : Int) ∧ Below wT.heap.size wT wr) (fun c12 _ => m2 - (intOf c12).toNat)
            case atStart => exact ⟨0, by omega, rfl, Below.refl _ _⟩
            case round =>
              obtain ⟨k, hk, rfl, hbT⟩ := hrel
              by_cases hkm : k < m2
              · have hdk : decide ((k : Int) < (m2 : Int)) = true := decide_eq_true (by omega)
                have hkL : k < (isortL q2).length := by rw [← HM.out]; exact hkm
                have hk0 : (0 : Int) ≤ (k : Int) := by omega
                obtain ⟨gy, oy, cy, hvy, -, hgy, hry, -⟩ := HE8.out.at_ k hkL
                simp only [Value.slice.injEq] at hvy
                obtain ⟨rfl, -, rfl⟩ := hvy
                obtain ⟨ha1, ha2, ha3⟩ := row_at HI2.out (show bn ≤ t from HBT.out) k hkL
                have hby : Below wT.heap.size wT wr := hbT
                have hry' := rangeAt_below hry hbT hgy
                have hgr : gy < wr.heap.size := Nat.lt_of_lt_of_le hgy hbT.size
                have hsr := HS8.out.keep hbT
                have RO := Lib.hid (Regrown.range (rangeAt_of_blk hsr.blk) hsr.blk.lt)
                have hd0 : wr.cell? ⟨wo.heap.size, 0, none⟩ = some (.int .i64 z1) := hsr.blk.cell 0
                have hd1 : wr.cell? ⟨wo.heap.size, 1, none⟩ = some (.int .i64 z2) := hsr.blk.cell 1
                have hd2 : wr.cell? ⟨wo.heap.size, 2, none⟩ = some (.int .i64 z3) := hsr.blk.cell 2
                have hd3 : wr.cell? ⟨wo.heap.size, 3, none⟩ = some (.string id) := hsr.blk.cell 3
                have hd4 : wr.cell? ⟨wo.heap.size, 4, none⟩ = some (.string body) := hsr.blk.cell 4
                have hlo : wo.heap.size < wr.heap.size := hsr.blk.lt
                obtain ⟨y, hy⟩ : ∃ y, y = (isortL q2).getD k default := ⟨_, rfl⟩
                have hy0 : wr.cell? ⟨gy, oy + k * 5, none⟩ = some (.string ((isortL q2).getD k default).id) := hry' 0 _ rfl
                have hy2 : wr.cell? ⟨gy, oy + k * 5 + 2, none⟩ = some (.int .i64 ((isortL q2).getD k default).due) := hry' 2 _ rfl
                have hy3 : wr.cell? ⟨gy, oy + k * 5 + 3, none⟩ = some (.int .i64 ((isortL q2).getD k default).tries) := hry' 3 _ rfl
                have hy4 : wr.cell? ⟨gy, oy + k * 5 + 4, none⟩ = some (.int .i64 ((isortL q2).getD k default).put) := hry' 4 _ rfl
                rw [← hy] at ha1 ha2 ha3 hy0 hy2 hy3 hy4
                have hf1 : decide ((6 : Int) < y.tries) = false := decide_eq_false (by omega)
                have hf2 : decide (t < y.put) = false := decide_eq_false (by omega)
                have HBT2 := Lib.hid hbT
                have HSR := Lib.hid hsr
                by_cases hk1 : k = 0
                · subst hk1
                  clear hkL hy hby hry hry' hsr hbT
                  have hf0 : decide ((0 : Int) < ((0 : Nat) : Int)) = false := by decide
                  go_wp2_with fail
                  refine wp_region_quiet_below (by kernel_rfl) (by kernel_rfl) ?_
                  repeat (go_big_quiet_step ((go_at_call 20; with_reducible exact regrown_below (HKE.out _))))
                  refine wpQuiet_nil ?_
                  intro w9 hw9
                  have hb9 := Re.below hw9
                  clear hw9
                  go_wp2_with fail
                  go_roundw
                  case rel => exact ⟨1, by omega, by go_num, HBT2.out.trans (hb9.mono HBT2.out.size)⟩
                  case measure => simp [intOf]; omega
                · obtain ⟨j, hj⟩ : ∃ j, k = j + 1 := ⟨k - 1, by omega⟩
                  have hf0 : decide ((0 : Int) < (k : Int)) = true := decide_eq_true (by omega)
                  have hf00 : decide (0 < k) = true := decide_eq_true (by omega)
                  have hkp : 0 < k := by omega
                  have hk5 : k ≤ 5 := by have := HMq.out; omega
                  have hn1 := row_next HI2.out j (by omega)
                  obtain ⟨gx, ox, cx, hvx, -, hgx, hrx, -⟩ := HE8.out.at_ j (by omega)
                  simp only [Value.slice.injEq, Option.some.injEq, Addr.mk.injEq] at hvx
                  obtain ⟨⟨rfl, rfl, -⟩, -, -⟩ := hvx
                  have hrx' := rangeAt_below hrx HBT2.out hgx
                  rw [← hj, ← hy] at hn1
                  obtain ⟨hn1, hn2⟩ := hn1
                  have hx0 : wr.cell? ⟨gy, oy + j * 5, none⟩ = some (.string ((isortL q2).getD j default).id) := hrx' 0 _ rfl
                  have hx2 : wr.cell? ⟨gy, oy + j * 5 + 2, none⟩ = some (.int .i64 ((isortL q2).getD j default).due) := hrx' 2 _ rfl
                  obtain ⟨x, hx⟩ : ∃ x, x = (isortL q2).getD j default := ⟨_, rfl⟩
                  rw [← hx] at hn1 hn2 hx0 hx2
                  have hf4 : decide (y.due < x.due) = false := decide_eq_false (by omega)
                  have hj1 : ((k : Int) - 1).toNat = j := by omega
                  have hj2 : (0 : Int) ≤ (k : Int) - 1 := by omega
                  have hj3 : (k : Int) - 1 < (m2 : Int) := by omega
                  clear hkL hy hby hry hry' hsr hbT hj hrx hrx' hx
                  go_wp2_with fail
                  refine wp_region_quiet_below (by kernel_rfl) (by kernel_rfl) ?_
                  repeat (go_big_quiet_step ((go_at_call 20; with_reducible exact regrown_below (HKE.out _))))
                  refine wpQuiet_nil ?_
                  intro w9 hw9
                  have hb9 := Re.below hw9
                  clear hw9
                  go_wp2_with fail
                  go_roundw
                  case rel => exact ⟨k + 1, by omega, by go_num, HBT2.out.trans (hb9.mono HBT2.out.size)⟩
                  case measure => simp [intOf]; omega
              · obtain rfl : k = m2 := by omega
                have hdk : decide ((k : Int) < (k : Int)) = false := decide_eq_false (by omega)
                have hsr := HS8.out.keep hbT
                have HSR := Lib.hid hsr
                clear hsr hbT
                go_wp2_with fail
                go_roundw
                case rel =>
                  have h1 := HW1.out
                  have h2 := HW2.out
                  have h3 := HBT.out
                  have h4 := HL2.out
                  have h5 := HMI.out
                  exact ⟨i + 1, t, bn, mi, _, q2, by omega, by go_num, by go_num, by go_num, by omega, by omega, by omega, by omega, HI2.out, HSR.out.lb, HSR.out.ops⟩
                case measure => simp [intOf]; omega
        · as_aux_lemma =>
            have HP := Lib.hid hp
            obtain ⟨q2, hq2⟩ : ∃ q2, q2 = (takeF q id).2 := ⟨_, rfl⟩
            rw [← hq2] at HP hi2 hl2
            clear hp hq2
            have hq25 : q2.length ≤ 5 := hi2.len
            have HI2 := Lib.hid hi2
            obtain ⟨m2, hm2⟩ : ∃ m2, m2 = (isortL q2).length := ⟨_, rfl⟩
            have hm2' : m2 = q2.length := hm2.trans (HM2.out q2)
            have hne : (((m2 : Nat) : Int) != mi - 1) = false := by rw [bne_eq_false_iff_eq]; have := HMI.out; omega
            have hgt : decide ((5 : Int) < mi - 1) = false := decide_eq_false (by have := HMI.out; omega)
            have hb5 : 0 ≤ mi - 1 := by have := HMI.out; omega
            have hb6 : mi - 1 ≤ 5 := by have := HMI.out; omega
            have HM := Lib.hid hm2
            have HMq := Lib.hid hm2'
            have HL2 := Lib.hid hl2
            clear hi2 hm2 hm2' hl2
            obtain ⟨wo, rfl⟩ : ∃ wo : World, wo = wr := ⟨_, rfl⟩
            go_wp2_with (first
              | (with_reducible refine wpList_load_mid rfl 23 (.tmp 26) rfl g (o + i * 5) (by with_unfolding_all rfl) (opCells ⟨z1, z2, z3, id, body⟩) _ HRR.out Try.underlying23 rfl (info23 _) ?_)
              | (with_reducible refine wpList_alloc_run rfl 23 rfl (opCells default).toArray zero23 ?_)
              | (refine wpList_store_blk rfl 23 (.tmp 7) (.tmp 27) rfl wo.heap.size 23 (opCells default).toArray (opCells ⟨z1, z2, z3, id, body⟩).toArray (by rfl) (by rfl) (Blk.new wo 23 _) rfl (info23 _) (one_op _) ?_
                 intro w2 hb2 hf2
                 have hF2 : Fr nob wo w2 := ((Fr.refl nob wo).alloc _).then hf2 (fun i hi => Or.inr (by unfold one at hi; omega))
                 have hc1 : w2.cell? ⟨wo.heap.size, 1, none⟩ = some (.int .i64 z2) := hb2.cell 1
                 have hs := (show Sd w w2 b v q bn _ l wo.heap.size ⟨z1, z2, z3, id, body⟩ from ⟨HL.out.keep hF2.below_nob, HO.out.keep hF2.below_nob, hb2⟩)
                 have HS := Lib.hid hs
                 have HB4 := Lib.hid hs.blk
                 clear hb2 hf2 hF2 hs)
              | (with_reducible refine wpList_load_blk rfl 23 (.tmp 7) rfl wo.heap.size 23 (opCells ⟨z1, z2, z3, id, body⟩).toArray _ (by with_unfolding_all rfl) HB4.out Try.underlying23 rfl (info23 _) ?_
                 clear HB4)
              | (go_at_call 20
                 have _t := HS
                 with_reducible refine (HKE.out _).mono ?_
                 rintro en w5 ⟨rfl, hb⟩
                 have hs5 := HS.out.keep hb
                 have hc3 : w5.cell? ⟨wo.heap.size, 3, none⟩ = some (.string id) := hs5.blk.cell 3
                 have hc4 : w5.cell? ⟨wo.heap.size, 4, none⟩ = some (.string body) := hs5.blk.cell 4
                 have HS5 := Lib.hid hs5
                 have hCC := take_any b _ _ _ id w5 hs5.lb.box hq5
                 rw [HP.out] at hCC
                 have HCC := Lib.hid hCC
                 clear HS hb hs5 hCC)
              | (go_at_call 12
                 have _t := HCC
                 refine HCC.out.mono ?_
                 rintro en w6 ⟨rfl, hT⟩
                 obtain ⟨v6, hs6, hF6⟩ := HS5.out.to hT
                 have HS6 := Lib.hid hs6
                 clear HCC HS5 hT hs6 hF6)
              | (go_at_call 14
                 refine (all_any b _ _ _ _ HS6.out.lb.box (by omega)).mono ?_
                 rintro en w8 ⟨v8, rfl, hE, hr, hb⟩
                 obtain ⟨A8, c8, hv8, -, -⟩ := hE.shape
                 have hm8 := HM.out
                 rw [← hm8] at hv8
                 subst hv8
                 have HE8 := Lib.hid hE
                 have HS8 := Lib.hid (HS6.out.keep hb)
                 clear HS6 hE hr hb hm8)
              | fail)
            obtain ⟨wT, rfl⟩ : ∃ wT : World, wT = w8 := ⟨_, rfl⟩
            go_loopw [12] (fun c12 wr => ∃ k : Nat, k ≤ m2 ∧ c12 = .int .i64 (k : Int) ∧ Below wT.heap.size wT wr) (fun c12 _ => m2 - (intOf c12).toNat)
            case atStart => exact ⟨0, by omega, rfl, Below.refl _ _⟩
            case round =>
              obtain ⟨k, hk, rfl, hbT⟩ := hrel
              by_cases hkm : k < m2
              · have hdk : decide ((k : Int) < (m2 : Int)) = true := decide_eq_true (by omega)
                have hkL : k < (isortL q2).length := by rw [← HM.out]; exact hkm
                have hk0 : (0 : Int) ≤ (k : Int) := by omega
                obtain ⟨gy, oy, cy, hvy, -, hgy, hry, -⟩ := HE8.out.at_ k hkL
                simp only [Value.slice.injEq] at hvy
                obtain ⟨rfl, -, rfl⟩ := hvy
                obtain ⟨ha1, ha2, ha3⟩ := row_at HI2.out (show bn ≤ t from HBT.out) k hkL
                have hby : Below wT.heap.size wT wr := hbT
                have hry' := rangeAt_below hry hbT hgy
                have hgr : gy < wr.heap.size := Nat.lt_of_lt_of_le hgy hbT.size
                have hsr := HS8.out.keep hbT
                have RO := Lib.hid (Regrown.range (rangeAt_of_blk hsr.blk) hsr.blk.lt)
                have hd0 : wr.cell? ⟨wo.heap.size, 0, none⟩ = some (.int .i64 z1) := hsr.blk.cell 0
                have hd1 : wr.cell? ⟨wo.heap.size, 1, none⟩ = some (.int .i64 z2) := hsr.blk.cell 1
                have hd2 : wr.cell? ⟨wo.heap.size, 2, none⟩ = some (.int .i64 z3) := hsr.blk.cell 2
                have hd3 : wr.cell? ⟨wo.heap.size, 3, none⟩ = some (.string id) := hsr.blk.cell 3
                have hd4 : wr.cell? ⟨wo.heap.size, 4, none⟩ = some (.string body) := hsr.blk.cell 4
                have hlo : wo.heap.size < wr.heap.size := hsr.blk.lt
                obtain ⟨y, hy⟩ : ∃ y, y = (isortL q2).getD k default := ⟨_, rfl⟩
                have hy0 : wr.cell? ⟨gy, oy + k * 5, none⟩ = some (.string ((isortL q2).getD k default).id) := hry' 0 _ rfl
                have hy2 : wr.cell? ⟨gy, oy + k * 5 + 2, none⟩ = some (.int .i64 ((isortL q2).getD k default).due) := hry' 2 _ rfl
                have hy3 : wr.cell? ⟨gy, oy + k * 5 + 3, none⟩ = some (.int .i64 ((isortL q2).getD k default).tries) := hry' 3 _ rfl
                have hy4 : wr.cell? ⟨gy, oy + k * 5 + 4, none⟩ = some (.int .i64 ((isortL q2).getD k default).put) := hry' 4 _ rfl
                rw [← hy] at ha1 ha2 ha3 hy0 hy2 hy3 hy4
                have hf1 : decide ((6 : Int) < y.tries) = false := decide_eq_false (by omega)
                have hf2 : decide (t < y.put) = false := decide_eq_false (by omega)
                have HBT2 := Lib.hid hbT
                have HSR := Lib.hid hsr
                by_cases hk1 : k = 0
                · subst hk1
                  clear hkL hy hby hry hry' hsr hbT
                  have hf0 : decide ((0 : Int) < ((0 : Nat) : Int)) = false := by decide
                  go_wp2_with fail
                  refine wp_region_quiet_below (by kernel_rfl) (by kernel_rfl) ?_
                  repeat (go_big_quiet_step ((go_at_call 20; with_reducible exact regrown_below (HKE.out _))))
                  refine wpQuiet_nil ?_
                  intro w9 hw9
                  have hb9 := Re.below hw9
                  clear hw9
                  go_wp2_with fail
                  go_roundw
                  case rel => exact ⟨1, by omega, by go_num, HBT2.out.trans (hb9.mono HBT2.out.size)⟩
                  case measure => simp [intOf]; omega
                · obtain ⟨j, hj⟩ : ∃ j, k = j + 1 := ⟨k - 1, by omega⟩
                  have hf0 : decide ((0 : Int) < (k : Int)) = true := decide_eq_true (by omega)
                  have hf00 : decide (0 < k) = true := decide_eq_true (by omega)
                  have hkp : 0 < k := by omega
                  have hk5 : k ≤ 5 := by have := HMq.out; omega
                  have hn1 := row_next HI2.out j (by omega)
                  obtain ⟨gx, ox, cx, hvx, -, hgx, hrx, -⟩ := HE8.out.at_ j (by omega)
                  simp only [Value.slice.injEq, Option.some.injEq, Addr.mk.injEq] at hvx
                  obtain ⟨⟨rfl, rfl, -⟩, -, -⟩ := hvx
                  have hrx' := rangeAt_below hrx HBT2.out hgx
                  rw [← hj, ← hy] at hn1
                  obtain ⟨hn1, hn2⟩ := hn1
                  have hx0 : wr.cell? ⟨gy, oy + j * 5, none⟩ = some (.string ((isortL q2).getD j default).id) := hrx' 0 _ rfl
                  have hx2 : wr.cell? ⟨gy, oy + j * 5 + 2, none⟩ = some (.int .i64 ((isortL q2).getD j default).due) := hrx' 2 _ rfl
                  obtain ⟨x, hx⟩ : ∃ x, x = (isortL q2).getD j default := ⟨_, rfl⟩
                  rw [← hx] at hn1 hn2 hx0 hx2
                  have hf4 : decide (y.due < x.due) = false := decide_eq_false (by omega)
                  have hj1 : ((k : Int) - 1).toNat = j := by omega
                  have hj2 : (0 : Int) ≤ (k : Int) - 1 := by omega
                  have hj3 : (k : Int) - 1 < (m2 : Int) := by omega
                  clear hkL hy hby hry hry' hsr hbT hj hrx hrx' hx
                  go_wp2_with fail
                  refine wp_region_quiet_below (by kernel_rfl) (by kernel_rfl) ?_
                  repeat (go_big_quiet_step ((go_at_call 20; with_reducible exact regrown_below (HKE.out _))))
                  refine wpQuiet_nil ?_
                  intro w9 hw9
                  have hb9 := Re.below hw9
                  clear hw9
                  go_wp2_with fail
                  go_roundw
                  case rel => exact ⟨k + 1, by omega, by go_num, HBT2.out.trans (hb9.mono HBT2.out.size)⟩
                  case measure => simp [intOf]; omega
              · obtain rfl : k = m2 := by omega
                have hdk : decide ((k : Int) < (k : Int)) = false := decide_eq_false (by omega)
                have hsr := HS8.out.keep hbT
                have HSR := Lib.hid hsr
                clear hsr hbT
                go_wp2_with fail
                go_roundw
                case rel =>
                  have h1 := HW1.out
                  have h2 := HW2.out
                  have h3 := HBT.out
                  have h4 := HL2.out
                  have h5 := HMI.out
                  exact ⟨i + 1, t, bn, mi - 1, _, q2, by omega, by go_num, by go_num, by go_num, by omega, by omega, by omega, by omega, HI2.out, HSR.out.lb, HSR.out.ops⟩
                case measure => simp [intOf]; omega
    · obtain rfl : i = n := by omega
      have hd : decide ((i : Int) < (i : Int)) = false := decide_eq_false (by omega)
      go_wp2_with fail
      go_ret
      exact ⟨rfl, HL.out.bel⟩
end Go.Proofs.Ytkagfnocpllcpaa.outboxRow
