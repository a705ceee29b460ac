/- The contract of the law's step. -/
import Derived.Test.YtkagfnocpllcpaaPlay
namespace Go.Proofs.Ytkagfnocpllcpaa
set_option linter.unusedVariables false
open Go Go.RowKit Go.Proofs
def both (b : Nat) (v : Value) (br : Nat) : Nat → Prop := fun k => foot b v k ∨ k = br
def StepTo (w : World) (b : Nat) (v : Value) (br : Nat) (W W' : World) : Prop :=
  ∃ (v' vr' : Value) (q' : List E) (bn' : Int), Pl w W' b v' q' bn' br vr' (isortL q') bn' ∧ Fine q' bn' ∧ Fr (both b v br) W W'
theorem OutS.at_ {w W : World} {v : Value} {l : List ByteArray} (h : OutS w W v l) (i : Nat) (hi : i < l.length) : ∃ g o cap, v = .slice (some ⟨g, o, none⟩) l.length cap ∧ g < W.heap.size ∧ W.cell? ⟨g, o + i, none⟩ = some (.string (l.getD i ⟨#[]⟩)) := by
  rcases h.own.2 with ⟨_, h0⟩ | ⟨g, o, cap, cur, rfl, hb, hc, hm, hfit, hx⟩
  · omega
  · refine ⟨g, o, cap, rfl, hb.lt, ?_⟩
    rw [hb.cell]
    exact hx i _ (by rw [List.getElem?_map]; simp [hi])
set_option maxRecDepth 100000 in
set_option maxHeartbeats 8000000 in
theorem step_any (w : World) (b br : Nat) (v vr : Value) (q : List E) (bn : Int) (o : Op) (now : Int) (W : World) (h : Pl w W b v q bn br vr (isortL q) bn) (hF : Fine q bn) (hid : o.id.size ≤ 70) :
    Calls Try.prog 23 #[bP b, rP br, opV o, .int .i64 now] W fun e W' => e = .returned (.bool true) ∧ StepTo w b v br W W' := by
  have HK := Lib.hid (fun w => kind_any o w)
  obtain ⟨kd, hkd⟩ : ∃ kd, kd = kindI o.kind := ⟨_, rfl⟩
  have hbd := kindI_bd o.kind
  rw [← hkd] at hbd HK
  clear hkd
  obtain ⟨z1, z2, z3, id, body⟩ := o
  have hid : id.size ≤ 70 := hid
  have hidm : id.size ≤ maxLen := by unfold maxLen; omega
  have hid1 : id.size ≤ 100 := by omega
  have hB : Blk (W.alloc (.cells (opCells ⟨z1, z2, z3, id, body⟩).toArray 23)) W.heap.size 23 (opCells ⟨z1, z2, z3, id, body⟩).toArray := Blk.new W 23 _
  have hP := h.keep ((Below.refl W.heap.size W).alloc (Nat.le_refl _) (.cells (opCells ⟨z1, z2, z3, id, body⟩).toArray 23))
  have HP := Lib.hid hP
  have HB := Lib.hid hB
  have HFI := Lib.hid hF
  have hq5 : q.length ≤ 5 := hF.inv.len
  have hr5 : (isortL q).length ≤ 5 := by rw [isort_len]; exact hq5
  have hbn0 : 0 ≤ bn := hF.bn0
  clear hB hP h hF
  rcases hbd with hk | hk | hk
  · subst hk
    obtain ⟨e, q', bn', hp1, hp2, hff⟩ := put_same HFI.out id body now hid1
    have HP1 := Lib.hid hp1
    have HP2 := Lib.hid hp2
    have HFF := Lib.hid hff
    clear hp1 hp2 hff
    go_enter Try.func23, Try.ntmps23
    go_wp2_with (first
      | (go_at_call 20
         refine (HK.out _).mono ?_
         rintro en w2 ⟨rfl, hb⟩)
      | fail)
    obtain ⟨g6, hg6⟩ : ∃ g6, g6 = W.heap.size := ⟨_, rfl⟩
    have hP2 := (HP.out.keep hb).keep (Below.refl w2.heap.size w2).drew
    have hB2 : Blk w2.drew W.heap.size 23 (opCells ⟨z1, z2, z3, id, body⟩).toArray := (HB.out.below hb HB.out.lt).drew
    have hF2 : Fr (both b v br) W w2.drew := Fr.of_below ((((Below.refl W.heap.size W).alloc (Nat.le_refl _) _).trans (hb.mono (by simp))).trans ((Below.refl w2.heap.size w2).drew.mono (by have := hb.size; simp at this; omega))) _
    rw [← hg6] at hB2 ⊢
    clear hg6 hb
    have hS2 : w2.drew.cell? ⟨g6, 3, none⟩ = some (.string id) ∧ w2.drew.cell? ⟨g6, 4, none⟩ = some (.string body) := ⟨hB2.cell 3, hB2.cell 4⟩
    go_region_held3 (fun w' => w'.cell? ⟨g6, 3, none⟩ = some (.string id) ∧ w'.cell? ⟨g6, 4, none⟩ = some (.string body)) (assumption) (first
      | (go_at_call 33
         have hC := rput_any br vr (isortL q) bn id body now wa hPa.ref hr5 hid1 HFI.out.row
         rw [HP2.out] at hC
         refine hC.mono ?_
         rintro en wc ⟨rfl, hT⟩
         obtain ⟨vc, hPc, hfc⟩ := hPa.doc hT
         have hBc := hBa.fr hfc (fun hk => by unfold one at hk; exact absurd hk (hBa.ne_ hPa.ref.blk (by decide)))
         have hSc : wc.cell? ⟨g6, 3, none⟩ = some (.string id) ∧ wc.cell? ⟨g6, 4, none⟩ = some (.string body) := ⟨hBc.cell 3, hBc.cell 4⟩
         have hFc : Fr (both b v br) W wc := hFa.trans (hfc.mono (fun k _ hk => .inr hk))
         clear hC hT)
      | (go_at_call 11
         have hC := put_any b v q bn id body now wr hPr.lb.box hq5 hidm
         rw [HP1.out] at hC
         refine hC.mono ?_
         rintro en wc ⟨rfl, hT⟩
         obtain ⟨vc, hPc, hfc⟩ := hPr.own hT
         have hBc := hBr.fr hfc (foot_blk hPr.lb hBr (by decide) (by decide))
         have hSc : wc.cell? ⟨g6, 3, none⟩ = some (.string id) ∧ wc.cell? ⟨g6, 4, none⟩ = some (.string body) := ⟨hBc.cell 3, hBc.cell 4⟩
         have hFc : Fr (both b v br) W wc := hFr.trans (hfc.mono (fun k _ hk => .inl hk))
         clear hC hT)
      | (go_at_call 11
         have hC := put_any b v q bn id body now w2.drew hP2.lb.box hq5 hidm
         rw [HP1.out] at hC
         refine hC.mono ?_
         rintro en wa ⟨rfl, hT⟩
         obtain ⟨va, hPa, hfa⟩ := hP2.own hT
         have hBa := hB2.fr hfa (foot_blk hP2.lb hB2 (by decide) (by decide))
         have hSa : wa.cell? ⟨g6, 3, none⟩ = some (.string id) ∧ wa.cell? ⟨g6, 4, none⟩ = some (.string body) := ⟨hBa.cell 3, hBa.cell 4⟩
         have hFa : Fr (both b v br) W wa := hF2.trans (hfa.mono (fun k _ hk => .inl hk))
         clear hC hT)
      | (go_at_call 33
         have hC := rput_any br vr (isortL q) bn id body now w2.drew hP2.ref hr5 hid1 HFI.out.row
         rw [HP2.out] at hC
         refine hC.mono ?_
         rintro en wr ⟨rfl, hT⟩
         obtain ⟨vr, hPr, hfr⟩ := hP2.doc hT
         have hBr := hB2.fr hfr (fun hk => by unfold one at hk; exact absurd hk (hB2.ne_ hP2.ref.blk (by decide)))
         have hSr : wr.cell? ⟨g6, 3, none⟩ = some (.string id) ∧ wr.cell? ⟨g6, 4, none⟩ = some (.string body) := ⟨hBr.cell 3, hBr.cell 4⟩
         have hFr : Fr (both b v br) W wr := hF2.trans (hfr.mono (fun k _ hk => .inr hk))
         clear hC hT)
      | fail)
    all_goals
      go_wp2_with fail
      go_ret
      first
        | exact ⟨rfl, vc, _, q', bn', hPc, HFF.out, hFc⟩
        | exact ⟨rfl, _, vc, q', bn', hPc, HFF.out, hFc⟩
  · subst hk
    obtain ⟨os, gs, e, q', bn', hp1, hp2, hff, hos, hgs⟩ := try_same HFI.out now
    have HP1 := Lib.hid hp1
    have HP2 := Lib.hid hp2
    have HFF := Lib.hid hff
    obtain ⟨h1, h2, h3, h4, h5, h6⟩ := due_laws now q.length q (Nat.le_refl _) HFI.out.inv.nod HFI.out.inv.heap
    rw [show dueF now q.length q = dueL now q from rfl] at h1 h2 h3 h4 h5 h6
    have HSP := Lib.hid (row_split HFI.out.inv now)
    have HTR := Lib.hid (tries_ok HFI.out.inv now)
    have HD1 := Lib.hid h3
    have HD2 : Hid (∀ x ∈ isortL (dueL now q).2, now < x.due) := Lib.hid (fun x hx => h4 x ((isortL_perm _).mem_iff.1 hx))
    have HIR := Lib.hid HFI.out.row
    clear hp1 hp2 hff h1 h2 h3 h4 h5 h6
    go_enter Try.func23, Try.ntmps23
    go_wp2_with (first
      | (go_at_call 20
         refine (HK.out _).mono ?_
         rintro en w2 ⟨rfl, hb⟩
         have hp2' := HP.out.keep hb
         have hC := try_any b v q bn now w2 hp2'.lb.box hq5 hbn0 HTR.out
         rw [HP1.out] at hC
         have HC := Lib.hid hC
         have HP3 := Lib.hid hp2'
         have HF3 : Hid (Fr (both b v br) W w2) := Lib.hid (Fr.of_below (((Below.refl W.heap.size W).alloc (Nat.le_refl _) _).trans (hb.mono (by simp))) _)
         clear hC hp2' hb)
      | (go_at_call 10
         refine HC.out.mono ?_
         rintro en w3 ⟨⟨vo, vg, rfl, hO, hG⟩, hT⟩
         obtain ⟨v3, hP4, hf4⟩ := HP3.out.own hT
         have hC2 := rtry_any br vr (dueL now q).1 (isortL (dueL now q).2) bn now w3 (by rw [← HSP.out]; exact hP4.ref) (by rw [← HSP.out]; exact hr5) hbn0 HTR.out HD1.out HD2.out (by rw [← HSP.out]; exact HIR.out)
         rw [HP2.out] at hC2
         have HC2 := Lib.hid hC2
         have HP4 := Lib.hid hP4
         have HF4 : Hid (Fr (both b v br) W w3) := Lib.hid (HF3.out.trans (hf4.mono (fun k _ hk => .inl hk)))
         have HO := Lib.hid hO
         have HG := Lib.hid hG
         obtain ⟨Ao, co, hvo, -, -⟩ := hO.ents.shape
         subst hvo
         obtain ⟨Ag, cg, hvg, -, -⟩ := hG.own.shape
         obtain ⟨m, hm⟩ : ∃ m, m = gs.length := ⟨_, rfl⟩
         rw [← hm] at hvg
         have HM := Lib.hid hm
         subst hvg
         clear hC2 hT hP4 hf4 hO hG HC HP3 HF3 hm)
      | (go_at_call 35
         refine HC2.out.mono ?_
         rintro en w4 ⟨⟨vp, vh, rfl, hO2, hG2⟩, hT⟩
         obtain ⟨v5, hP5, hf5⟩ := HP4.out.doc hT
         have HF5 : Hid (Fr (both b v br) W w4) := Lib.hid (HF4.out.trans (hf5.mono (fun k _ hk => .inr hk)))
         have HO1 : Hid (Ents w4 (.slice Ao os.length co) os) := Lib.hid (Own.fr HO.out.ents hf5 (fun k hk hk2 => by unfold one at hk; subst hk; exact Own.blk_ne HO.out.ents HP4.out.ref.blk (by decide) hk2))
         have HG1 : Hid (OutS w2 w4 (.slice Ag m cg) gs) := Lib.hid ⟨Own.fr HG.out.own hf5 (fun k hk hk2 => by unfold one at hk; subst hk; exact Own.blk_ne HG.out.own HP4.out.ref.blk (by decide) hk2), HG.out.row⟩
         have HO2 := Lib.hid hO2
         have HG2 := Lib.hid hG2
         obtain ⟨Ap, cp, hvp, -, -⟩ := hO2.ents.shape
         subst hvp
         obtain ⟨Ah, ch, hvh, -, -⟩ := hG2.own.shape
         have hm := HM.out
         rw [← hm] at hvh
         subst hvh
         have HP5 := Lib.hid hP5
         clear hT hP5 hf5 hO2 hG2 hm HO HG HP4 HF4 HC2)
      | fail)
    have hm5 : m ≤ 5 := by rw [HM.out]; exact hgs
    obtain ⟨wT, rfl⟩ : ∃ wT : World, wT = w4 := ⟨_, rfl⟩
    go_loopw [15] (fun c15 wr => ∃ k : Nat, k ≤ m ∧ c15 = .int .i64 (k : Int) ∧ Below wT.heap.size wT wr) (fun c15 _ => m - (intOf c15).toNat)
    case atStart => exact ⟨0, by omega, rfl, Below.refl _ _⟩
    case round =>
      obtain ⟨k, hk, rfl, hbT⟩ := hrel
      have HBT := Lib.hid hbT
      by_cases hkm : k < m
      · have hdk : decide ((k : Int) < (m : Int)) = true := decide_eq_true (by omega)
        have hk0 : (0 : Int) ≤ (k : Int) := by omega
        obtain ⟨g1, o1, c1, hv1, hg1, hx1⟩ := HG1.out.at_ k (by rw [← HM.out]; exact hkm)
        obtain ⟨g2, o2, c2, hv2, hg2, hx2⟩ := HG2.out.at_ k (by rw [← HM.out]; exact hkm)
        simp only [Value.slice.injEq] at hv1 hv2
        obtain ⟨rfl, -, rfl⟩ := hv1
        obtain ⟨rfl, -, rfl⟩ := hv2
        have hy1 := (hbT.cell (p := ⟨g1, o1 + k, none⟩) hg1).trans hx1
        have hy2 := (hbT.cell (p := ⟨g2, o2 + k, none⟩) hg2).trans hx2
        have hgr1 : g1 < wr.heap.size := Nat.lt_of_lt_of_le hg1 hbT.size
        have hgr2 : g2 < wr.heap.size := Nat.lt_of_lt_of_le hg2 hbT.size
        obtain ⟨str, hstr⟩ : ∃ str, str = gs.getD k ⟨#[]⟩ := ⟨_, rfl⟩
        rw [← hstr] at hy1 hy2
        have hse : (str.toList != str.toList) = false := by simp
        have hse2 : (str.toList == str.toList) = true := by simp
        clear hstr hx1 hx2 hbT
        go_wp2_with fail
        refine wp_region_quiet_below (by kernel_rfl) (by kernel_rfl) ?_
        repeat (go_big_quiet_step (fail))
        refine wpQuiet_nil ?_
        intro w9 hw9
        have hb9 := Re.below hw9
        clear hw9
        go_wp2_with fail
        go_roundw
        case rel => exact ⟨k + 1, by omega, by go_num, HBT.out.trans (hb9.mono HBT.out.size)⟩
        case measure => simp [intOf]; omega
      · obtain rfl : k = m := by omega
        have hdk : decide ((k : Int) < (k : Int)) = false := decide_eq_false (by omega)
        have HA := Lib.hid (as_any os _ wr (HO1.out.keep hbT) (by omega))
        have HOK := Lib.hid ((show EntsR wT _ os from HO2.out.ents).keep hbT)
        clear hbT
        go_wp2_with (first
          | (go_at_call 19
             refine HA.out.mono ?_
             rintro en w10 ⟨v10, rfl, hE10, hr10, hb10⟩
             have HSM := Lib.hid (same_any os _ _ w10 hE10 (HOK.out.keep hb10) (by omega))
             obtain ⟨A10, c10, hv10, -, -⟩ := hE10.shape
             subst hv10
             clear hE10)
          | (go_at_call 21
             refine HSM.out.mono ?_
             rintro en w11 ⟨rfl, hb11⟩)
          | fail)
        go_ret
        have hbA := HBT.out.trans ((hb10.trans (hb11.mono hb10.size)).mono HBT.out.size)
        exact ⟨rfl, _, _, q', bn', HP5.out.keep hbA, HFF.out, HF5.out.trans (Fr.of_below hbA _)⟩
  · subst hk
    obtain ⟨e, q', hp1, hp2, hff⟩ := take_same HFI.out id
    have HP1 := Lib.hid hp1
    have HP2 := Lib.hid hp2
    have HFF := Lib.hid hff
    clear hp1 hp2 hff
    go_enter Try.func23, Try.ntmps23
    go_wp2_with (first
      | (go_at_call 20
         refine (HK.out _).mono ?_
         rintro en w2 ⟨rfl, hb⟩)
      | fail)
    obtain ⟨g6, hg6⟩ : ∃ g6, g6 = W.heap.size := ⟨_, rfl⟩
    have hP2 := (HP.out.keep hb).keep (Below.refl w2.heap.size w2).drew
    have hB2 : Blk w2.drew W.heap.size 23 (opCells ⟨z1, z2, z3, id, body⟩).toArray := (HB.out.below hb HB.out.lt).drew
    have hF2 : Fr (both b v br) W w2.drew := Fr.of_below ((((Below.refl W.heap.size W).alloc (Nat.le_refl _) _).trans (hb.mono (by simp))).trans ((Below.refl w2.heap.size w2).drew.mono (by have := hb.size; simp at this; omega))) _
    rw [← hg6] at hB2 ⊢
    clear hg6 hb
    have hS2 : w2.drew.cell? ⟨g6, 3, none⟩ = some (.string id) ∧ w2.drew.cell? ⟨g6, 4, none⟩ = some (.string body) := ⟨hB2.cell 3, hB2.cell 4⟩
    go_region_held3 (fun w' => w'.cell? ⟨g6, 3, none⟩ = some (.string id) ∧ w'.cell? ⟨g6, 4, none⟩ = some (.string body)) (assumption) (first
      | (go_at_call 34
         have hC := rtake_any br vr (isortL q) bn id wa hPa.ref hr5
         rw [HP2.out] at hC
         refine hC.mono ?_
         rintro en wc ⟨rfl, hT⟩
         obtain ⟨vc, hPc, hfc⟩ := hPa.doc hT
         have hBc := hBa.fr hfc (fun hk => by unfold one at hk; exact absurd hk (hBa.ne_ hPa.ref.blk (by decide)))
         have hSc : wc.cell? ⟨g6, 3, none⟩ = some (.string id) ∧ wc.cell? ⟨g6, 4, none⟩ = some (.string body) := ⟨hBc.cell 3, hBc.cell 4⟩
         have hFc : Fr (both b v br) W wc := hFa.trans (hfc.mono (fun k _ hk => .inr hk))
         clear hC hT)
      | (go_at_call 12
         have hC := take_any b v q bn id wr hPr.lb.box hq5
         rw [HP1.out] at hC
         refine hC.mono ?_
         rintro en wc ⟨rfl, hT⟩
         obtain ⟨vc, hPc, hfc⟩ := hPr.own hT
         have hBc := hBr.fr hfc (foot_blk hPr.lb hBr (by decide) (by decide))
         have hSc : wc.cell? ⟨g6, 3, none⟩ = some (.string id) ∧ wc.cell? ⟨g6, 4, none⟩ = some (.string body) := ⟨hBc.cell 3, hBc.cell 4⟩
         have hFc : Fr (both b v br) W wc := hFr.trans (hfc.mono (fun k _ hk => .inl hk))
         clear hC hT)
      | (go_at_call 12
         have hC := take_any b v q bn id w2.drew hP2.lb.box hq5
         rw [HP1.out] at hC
         refine hC.mono ?_
         rintro en wa ⟨rfl, hT⟩
         obtain ⟨va, hPa, hfa⟩ := hP2.own hT
         have hBa := hB2.fr hfa (foot_blk hP2.lb hB2 (by decide) (by decide))
         have hSa : wa.cell? ⟨g6, 3, none⟩ = some (.string id) ∧ wa.cell? ⟨g6, 4, none⟩ = some (.string body) := ⟨hBa.cell 3, hBa.cell 4⟩
         have hFa : Fr (both b v br) W wa := hF2.trans (hfa.mono (fun k _ hk => .inl hk))
         clear hC hT)
      | (go_at_call 34
         have hC := rtake_any br vr (isortL q) bn id w2.drew hP2.ref hr5
         rw [HP2.out] at hC
         refine hC.mono ?_
         rintro en wr ⟨rfl, hT⟩
         obtain ⟨vr, hPr, hfr⟩ := hP2.doc hT
         have hBr := hB2.fr hfr (fun hk => by unfold one at hk; exact absurd hk (hB2.ne_ hP2.ref.blk (by decide)))
         have hSr : wr.cell? ⟨g6, 3, none⟩ = some (.string id) ∧ wr.cell? ⟨g6, 4, none⟩ = some (.string body) := ⟨hBr.cell 3, hBr.cell 4⟩
         have hFr : Fr (both b v br) W wr := hF2.trans (hfr.mono (fun k _ hk => .inr hk))
         clear hC hT)
      | fail)
    all_goals
      go_wp2_with fail
      go_ret
      first
        | exact ⟨rfl, vc, _, q', bn, hPc, HFF.out, hFc⟩
        | exact ⟨rfl, _, vc, q', bn, hPc, HFF.out, hFc⟩
end Go.Proofs.Ytkagfnocpllcpaa
