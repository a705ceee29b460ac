/- Part: a part of the writes is put, and the disk breaks. Written by wip/mkpart.py. -/
import Derived.Test.YtnlkjhhocehhaaaWrite
namespace Go.Proofs.Ytnlkjhhocehhaaa
set_option linter.unusedVariables false
open Go Go.RowKit Go.Proofs Sha
theorem insAt_permW : ∀ (j : Nat) (l : List Wr), j < l.length → (insAt j l).Perm l
  | 0, l, _ => List.Perm.refl _
  | j + 1, l, h => by
    rw [insAt]
    split
    · exact (insAt_permW j _ (by rw [Hp.length_swapL]; omega)).trans (Hp.swapL_perm l j (j + 1) (by omega) h)
    · exact List.Perm.refl _
theorem isortTo_permW : ∀ (k : Nat) (l : List Wr), k < l.length → (isortTo k l).Perm l
  | 0, l, _ => List.Perm.refl _
  | k + 1, l, h => by
    rw [isortTo]
    exact (insAt_permW _ _ (by rw [length_isortTo]; exact h)).trans (isortTo_permW k l (by omega))
theorem isortW_perm (l : List Wr) : (isortL l).Perm l := by
  unfold isortL
  cases l with
  | nil => exact List.Perm.refl _
  | cons x l => exact isortTo_permW _ _ (by simp)
def putT (l : List (List UInt8)) (e : Wr) (mo : Nat) : List (List UInt8) := l.set e.room.toNat (l.getD e.room.toNat [] ++ (recB e.x).take mo)
def tornN (torn : Int) (x : List UInt8) : Nat := (min (max torn 0) (5 + (x.length : Int))).toNat
def partStep (room k torn : Int) (st : List (List UInt8) × Nat) (e : Wr) : List (List UInt8) × Nat :=
  if e.room < room then (putT st.1 e 4006, st.2) else if e.room = room ∧ (st.2 : Int) < k then (putT st.1 e 4006, st.2 + 1) else if e.room = room ∧ (st.2 : Int) = max k 0 then (putT st.1 e (tornN torn e.x), st.2 + 1) else st
theorem put_anyI {w W : World} {d g n : Nat} {vs : List Value} {l : List (List UInt8)} {br : Bool} (h : Dk w W d g n vs l br) (k : Nat) (hk : k < n) (hn : n ≤ 100) (A : Option Addr) (c : Nat) (x : List UInt8) (mo : Nat)
    (hx : x.length ≤ 4000) (hc : x.length ≤ c) (hcm : c ≤ maxLen) (hby : Bytes W A x) (hA : A = none → c = 0) (hmo : mo ≤ 10000) (hl : (l.getD k []).length ≤ 200000) (mi : Int) (hmi : mi = (mo : Int)) :
    Calls Try.prog 82 #[dP d, .agg #[.int .i64 (k : Int), .slice A x.length c], .int .i64 mi] W fun e W' => e = .returned (.tuple #[]) ∧ PutTo w d g n vs l br k ((recB x).take mo) W W' := by
  subst hmi
  exact put_any h k hk hn A c x mo hx hc hcm hby hA hmo hl
theorem Dk.break_ {w W : World} {d g n : Nat} {vs : List Value} {l : List (List UInt8)} {br : Bool} (h : Dk w W d g n vs l br) (b' : Bool) : Dk w (W.setCell ⟨d, 1, none⟩ (.bool b')) d g n vs l b' := by
  have hF : Fr (one d) W (W.setCell ⟨d, 1, none⟩ (.bool b')) := (Fr.refl (one d) W).setCell' (.inl rfl) _
  exact ⟨h.blk.set_ 1 _, h.arr.fr hF (fun e => by unfold one at e; exact h.dg e.symm), h.n1, h.n2, fun i hi => Own.fr (h.own i hi) hF (fun k hk hk2 => by unfold one at hk; subst hk; exact h.row_d i hi hk2), h.dis, h.dnew, h.rnew, h.bel.trans (hF.below h.bel.size (fun k hk => by unfold one at hk; subst hk; exact h.dnew.1))⟩
set_option maxRecDepth 100000 in
set_option maxHeartbeats 40000000 in
theorem part_any {w W : World} {d g n : Nat} {vs : List Value} {l : List (List UInt8)} {br : Bool} (h : Dk w W d g n vs l br) (hn : n ≤ 100) (A : Option Addr) (m c : Nat) (ws : List Wr) (hw : WsA W (dfoot d g n vs) A m c ws) (hm : m ≤ 20) (hx : ∀ e ∈ ws, e.x.length ≤ 10000) (hl : ∀ i, (l.getD i []).length ≤ 60000) (room k torn : Int) :
    Calls Try.prog 55 #[dP d, .slice A m c, .int .i64 room, .int .i64 k, .int .i64 torn] W fun e W' => e = .returned (.int .i64 (mayD br (l.map List.length) ws)) ∧ if mayD br (l.map List.length) ws = 0 then DkTo w d g n vs W ((isortL ws).foldl (partStep room k torn) (l, 0)).1 true W' else DkTo w d g n vs W l br W' := by
  have HMAY := Lib.hid (may_any h hn A m c ws hw.row hm hx (fun i => Nat.le_trans (hl i) (by omega)))
  have HD := Lib.hid h
  have HW := Lib.hid hw
  have HL := Lib.hid hl
  have hz := fun (hh : mayD br (l.map List.length) ws = 0) => mayD_zero hh
  have HZ := Lib.hid hz
  have hn2 := h.n2
  have HN2 := Lib.hid hn2
  obtain ⟨rr, hrr⟩ : ∃ rr, rr = mayD br (l.map List.length) ws := ⟨_, rfl⟩
  rw [← hrr] at HMAY ⊢ HZ
  clear h hw hl hz hn2 hrr
  by_cases h0 : rr = 0
  · subst h0
    simp only [↓reduceIte]
    have hz := HZ.out rfl
    rw [List.length_map, HN2.out] at hz
    obtain ⟨hbr, hea, hro⟩ := hz
    obtain ⟨sl, hsl⟩ : ∃ sl, sl = isortL ws := ⟨_, rfl⟩
    have hperm : sl.Perm ws := by rw [hsl]; exact isortW_perm ws
    have hsm : sl.length = m := by rw [hperm.length_eq]; exact HW.out.row.1.symm
    have hea2 : ∀ e ∈ sl, badW n e = false ∧ e.x.length ≤ 4000 := fun e he => hea e (hperm.mem_iff.1 he)
    have hwa2 : ∀ e ∈ sl, e ∈ ws := fun e he => hperm.mem_iff.1 he
    rw [← hsl]
    have HSL := Lib.hid hsl
    have HSM := Lib.hid hsm
    have HEA := Lib.hid hea2
    have HIN := Lib.hid hwa2
    clear hea hro HZ hbr hsl hperm hsm hea2 hwa2
    go_enter Try.func55, Try.ntmps55
    go_wp2_with (first
      | (go_at_call 81
         refine HMAY.out.mono ?_
         rintro e w2 ⟨rfl, hb2⟩
         have HB2 := Lib.hid hb2
         have HRO := Lib.hid (row_any A m c ws w2 (HW.out.row.keep hb2) (by have := HW.out.row.1; omega))
         clear hb2)
      | (go_at_call 83
         refine HRO.out.mono ?_
         rintro e w3 ⟨v3, rfl, hE3, hr3, hb3⟩
         rw [← HSL.out] at hE3
         obtain ⟨A3, c3, hv3, -, -⟩ := hE3.shape
         rw [HSM.out] at hv3
         subst hv3)
      | fail)
    have hB3 := HB2.out.trans (hb3.mono HB2.out.size)
    clear hb3 hr3
    go_loopw [12, 24] (fun c12 c24 wr => ∃ (i : Nat) (vs1 : List Value) (st : List (List UInt8) × Nat), i ≤ m ∧ c24 = .int .i64 (i : Int) ∧ c12 = .int .i64 (st.2 : Int) ∧ st = (sl.take i).foldl (partStep room k torn) (l, 0) ∧ st.2 ≤ i ∧ Dk w wr d g n vs1 st.1 br ∧ Fr (dfoot d g n vs) W wr ∧ (∀ j, j < n → ∀ k, rowOf (vs1.getD j undef) k → dfoot d g n vs k ∨ W.heap.size ≤ k) ∧ (∀ k, (st.1.getD k []).length ≤ 60000 + i * 4006) ∧ WsO wr (.slice A3 m c3) sl) (fun _ c24 _ => m - (intOf c24).toNat)
    case atStart =>
      obtain ⟨vs1, q1, q2, q3⟩ := DkTo.same HD.out hB3
      exact ⟨0, vs1, (l, 0), by omega, rfl, rfl, rfl, by simp, q1, q2, q3, fun k => by have := HL.out k; simpa using this, hE3⟩
    case round =>
      obtain ⟨i, vs1, ⟨cur, nn⟩, hi, rfl, rfl, hst, hni, hD, hF, hR, hlen, hE⟩ := hrel
      simp only at hD hlen hni
      have HDD := Lib.hid hD
      have HFF := Lib.hid hF
      have HRR := Lib.hid hR
      have HLN := Lib.hid hlen
      have HEE := Lib.hid hE
      have HST := Lib.hid hst
      clear hD hF hR hlen hE hst hE3 hB3
      by_cases him : i < m
      · have hd : decide ((i : Int) < (m : Int)) = true := decide_eq_true (by omega)
        obtain ⟨gw, ow, cw, hvw, -, hgw, hrw, -⟩ := HEE.out.at_ i (by rw [HSM.out]; exact him)
        simp only [Value.slice.injEq] at hvw
        obtain ⟨rfl, -, rfl⟩ := hvw
        have hts : sl.take (i + 1) = sl.take i ++ [sl.getD i default] := by
          rw [List.take_succ_eq_append_getElem (by rw [HSM.out]; exact him)]; simp [show i < sl.length by rw [HSM.out]; exact him]
        have hmem : sl.getD i default ∈ sl := by simp [show i < sl.length by rw [HSM.out]; exact him]
        obtain ⟨e, he⟩ : ∃ e, e = sl.getD i default := ⟨_, rfl⟩
        rw [← he] at hrw hts hmem
        obtain ⟨hb, hx4⟩ := HEA.out e hmem
        obtain ⟨rk, hk, hkn⟩ := badW_room hb
        obtain ⟨e1, e2, e3, e4, e5⟩ := (HW.out.fr HFF.out).each e (HIN.out e hmem)
        have hstep : (sl.take (i + 1)).foldl (partStep room k torn) (l, 0) = partStep room k torn (cur, nn) e := by
          rw [hts, List.foldl_append, ← HST.out]; rfl
        obtain ⟨rm, Ae, ce, xe⟩ := e
        simp only at hk e1 e2 e3 e4 hx4
        subst hk
        have HRW := Lib.hid hrw
        have HB4 := Lib.hid e4
        have HC := Lib.hid (And.intro e1 (And.intro e2 e3))
        have HSTEP := Lib.hid hstep
        obtain ⟨xl, hxl⟩ : ∃ xl, xl = xe.length := ⟨_, rfl⟩
        have HXL := Lib.hid hxl
        have hxl4 : xl ≤ 4000 := by rw [hxl]; exact hx4
        have hni20 : nn ≤ 20 := by omega
        have hnn0 : (0 : Int) ≤ (nn : Int) := by omega
        clear hrw hts he hmem hb e4 e5 e1 e2 e3 hstep hxl
        obtain ⟨wo, rfl⟩ : ∃ wo : World, wo = wr := ⟨_, rfl⟩
        by_cases hc1 : (rk : Int) < room
        · have hd1 : decide ((rk : Int) < room) = true := decide_eq_true hc1
          have HNX : Hid (partStep room k torn (cur, nn) ⟨(rk : Int), Ae, ce, xe⟩ = (cur.set rk (cur.getD rk [] ++ (recB xe).take 4006), nn)) := Lib.hid (by unfold partStep; rw [if_pos hc1]; rfl)
          obtain ⟨mo, hmo⟩ : ∃ mo, mo = 4006 := ⟨_, rfl⟩
          have hmo2 : mo ≤ 10000 := by omega
          rw [← hmo] at HNX
          have HMO : Hid ((4006 : Int) = (mo : Int)) := Lib.hid (by omega)
          have HMOL : Hid (mo ≤ 4006) := Lib.hid (by omega)
          clear hmo hc1
          as_aux_lemma =>
            go_wp2_with (first
              | (with_reducible refine wpList_load_mid rfl 73 (.tmp 26) rfl gw (ow + i * 2) (by with_unfolding_all rfl) (wrC ⟨(rk : Int), Ae, ce, xe⟩) _ HRW.out Try.underlying73 rfl (info73 _) ?_)
              | (with_reducible refine wpList_alloc_run rfl 73 rfl (wrC default).toArray zero73 ?_)
              | (refine wpList_store_blk rfl 73 (.tmp 14) (.tmp 27) rfl wo.heap.size 73 (wrC default).toArray (wrC ⟨(rk : Int), Ae, ce, xe⟩).toArray (by rfl) (by rfl) (Blk.new wo 73 _) rfl (info73 _) (one_wr _) ?_
                 intro w4 hb4 hf4
                 have hF4 : Fr nob wo w4 := ((Fr.refl nob wo).alloc _).then hf4 (fun i hi => Or.inr (by unfold one at hi; omega))
                 have hxl9 := HXL.out
                 have hcr : w4.cell? ⟨wo.heap.size, 0, none⟩ = some (.int .i64 (rk : Int)) := hb4.cell 0
                 have hcs : w4.cell? ⟨wo.heap.size, 1, none⟩ = some (.slice Ae xl ce) := by rw [hxl9]; exact hb4.cell 1
                 have HD4 := Lib.hid (HDD.out.keep hF4.below_nob)
                 have HF4 : Hid (Fr (dfoot d g n vs) W w4) := Lib.hid (HFF.out.trans (hF4.mono (fun _ _ h => h.elim)))
                 have HE4 := Lib.hid (HEE.out.keep hF4.below_nob)
                 have HBX := Lib.hid (HB4.out.keep hF4.below_nob)
                 have HBW := Lib.hid hb4
                 clear hb4 hf4 hF4 hxl9
                 simp only [Act.put, List.setIfInBounds_toArray, List.set_cons_zero, List.set_cons_succ])
              | (with_reducible refine wpList_load_blk rfl 73 (.tmp 14) rfl wo.heap.size 73 (wrC ⟨(rk : Int), Ae, ce, xe⟩).toArray _ (by with_unfolding_all rfl) HBW.out Try.underlying73 rfl (info73 _) ?_
                 simp only [Act.put, List.setIfInBounds_toArray, List.set_cons_zero, List.set_cons_succ])
              | (go_at_call 82
                 refine (put_anyI HD4.out rk hkn hn Ae ce xe mo hx4 HC.out.1 HC.out.2.1 HBX.out HC.out.2.2 hmo2 (by have := HLN.out rk; omega) _ (HMO.out)).mono ?_
                 rintro en w5 ⟨rfl, hpt⟩)
              | fail)
            go_roundw
            case rel =>
              obtain ⟨vs2, q1, q2, q3⟩ := DkTo.put hkn HD4.out HF4.out HRR.out hpt
              obtain ⟨v', p1, p2, p3⟩ := hpt
              have hE5 : WsO w5 (.slice (some ⟨gw, ow, none⟩) m c3) sl := by
                refine Own.fr HE4.out p2 (fun q hq hq2 => ?_)
                rcases hq with rfl | hq
                · exact Own.blk_ne HE4.out HD4.out.arr (by decide) hq2
                · exact own_disj (HD4.out.own rk hkn) HE4.out (by decide) q hq hq2
              have hnx := HSTEP.out.trans HNX.out
              refine ⟨i + 1, vs2, (cur.set rk (cur.getD rk [] ++ (recB xe).take mo), nn), by omega, by go_num, by go_num, hnx.symm, by simp only; omega, q1, q2, q3, fun j => ?_, hE5⟩
              have h8 := HLN.out j
              have h9 := HLN.out rk
              have h7 := HMOL.out
              simp only [List.getD_eq_getElem?_getD, List.getElem?_set] at h8 h9 ⊢
              split
              · split
                · simp only [Option.getD_some, List.length_append, List.length_take, length_recB]; omega
                · simp
              · omega
            case measure => simp [intOf]; omega
        · have hd1 : decide ((rk : Int) < room) = false := decide_eq_false hc1
          by_cases hc2 : (rk : Int) = room
          · have he2 : ((rk : Int) == room) = true := by simpa using hc2
            by_cases hc3 : (nn : Int) < k
            · have hd3 : decide ((nn : Int) < k) = true := decide_eq_true hc3
              have HNX : Hid (partStep room k torn (cur, nn) ⟨(rk : Int), Ae, ce, xe⟩ = (cur.set rk (cur.getD rk [] ++ (recB xe).take 4006), nn + 1)) := Lib.hid (by unfold partStep; rw [if_neg hc1, if_pos ⟨hc2, hc3⟩]; rfl)
              obtain ⟨mo, hmo⟩ : ∃ mo, mo = 4006 := ⟨_, rfl⟩
              have hmo2 : mo ≤ 10000 := by omega
              rw [← hmo] at HNX
              have HMO : Hid ((4006 : Int) = (mo : Int)) := Lib.hid (by omega)
              have HMOL : Hid (mo ≤ 4006) := Lib.hid (by omega)
              clear hmo hc1 hc2 hc3
              as_aux_lemma =>
                go_wp2_with (first
                  | (with_reducible refine wpList_load_mid rfl 73 (.tmp 26) rfl gw (ow + i * 2) (by with_unfolding_all rfl) (wrC ⟨(rk : Int), Ae, ce, xe⟩) _ HRW.out Try.underlying73 rfl (info73 _) ?_)
                  | (with_reducible refine wpList_alloc_run rfl 73 rfl (wrC default).toArray zero73 ?_)
                  | (refine wpList_store_blk rfl 73 (.tmp 14) (.tmp 27) rfl wo.heap.size 73 (wrC default).toArray (wrC ⟨(rk : Int), Ae, ce, xe⟩).toArray (by rfl) (by rfl) (Blk.new wo 73 _) rfl (info73 _) (one_wr _) ?_
                     intro w4 hb4 hf4
                     have hF4 : Fr nob wo w4 := ((Fr.refl nob wo).alloc _).then hf4 (fun i hi => Or.inr (by unfold one at hi; omega))
                     have hxl9 := HXL.out
                     have hcr : w4.cell? ⟨wo.heap.size, 0, none⟩ = some (.int .i64 (rk : Int)) := hb4.cell 0
                     have hcs : w4.cell? ⟨wo.heap.size, 1, none⟩ = some (.slice Ae xl ce) := by rw [hxl9]; exact hb4.cell 1
                     have HD4 := Lib.hid (HDD.out.keep hF4.below_nob)
                     have HF4 : Hid (Fr (dfoot d g n vs) W w4) := Lib.hid (HFF.out.trans (hF4.mono (fun _ _ h => h.elim)))
                     have HE4 := Lib.hid (HEE.out.keep hF4.below_nob)
                     have HBX := Lib.hid (HB4.out.keep hF4.below_nob)
                     have HBW := Lib.hid hb4
                     clear hb4 hf4 hF4 hxl9
                     simp only [Act.put, List.setIfInBounds_toArray, List.set_cons_zero, List.set_cons_succ])
                  | (with_reducible refine wpList_load_blk rfl 73 (.tmp 14) rfl wo.heap.size 73 (wrC ⟨(rk : Int), Ae, ce, xe⟩).toArray _ (by with_unfolding_all rfl) HBW.out Try.underlying73 rfl (info73 _) ?_
                     simp only [Act.put, List.setIfInBounds_toArray, List.set_cons_zero, List.set_cons_succ])
                  | (go_at_call 82
                     refine (put_anyI HD4.out rk hkn hn Ae ce xe mo hx4 HC.out.1 HC.out.2.1 HBX.out HC.out.2.2 hmo2 (by have := HLN.out rk; omega) _ (HMO.out)).mono ?_
                     rintro en w5 ⟨rfl, hpt⟩)
                  | fail)
                go_roundw
                case rel =>
                  obtain ⟨vs2, q1, q2, q3⟩ := DkTo.put hkn HD4.out HF4.out HRR.out hpt
                  obtain ⟨v', p1, p2, p3⟩ := hpt
                  have hE5 : WsO w5 (.slice (some ⟨gw, ow, none⟩) m c3) sl := by
                    refine Own.fr HE4.out p2 (fun q hq hq2 => ?_)
                    rcases hq with rfl | hq
                    · exact Own.blk_ne HE4.out HD4.out.arr (by decide) hq2
                    · exact own_disj (HD4.out.own rk hkn) HE4.out (by decide) q hq hq2
                  have hnx := HSTEP.out.trans HNX.out
                  refine ⟨i + 1, vs2, (cur.set rk (cur.getD rk [] ++ (recB xe).take mo), nn + 1), by omega, by go_num, by go_num, hnx.symm, by simp only; omega, q1, q2, q3, fun j => ?_, hE5⟩
                  have h8 := HLN.out j
                  have h9 := HLN.out rk
                  have h7 := HMOL.out
                  simp only [List.getD_eq_getElem?_getD, List.getElem?_set] at h8 h9 ⊢
                  split
                  · split
                    · simp only [Option.getD_some, List.length_append, List.length_take, length_recB]; omega
                    · simp
                  · omega
                case measure => simp [intOf]; omega
            · have hd3 : decide ((nn : Int) < k) = false := decide_eq_false hc3
              by_cases hc4 : (nn : Int) = max k 0
              · have HNX : Hid (partStep room k torn (cur, nn) ⟨(rk : Int), Ae, ce, xe⟩ = (cur.set rk (cur.getD rk [] ++ (recB xe).take (tornN torn xe)), nn + 1)) := Lib.hid (by unfold partStep; rw [if_neg hc1, if_neg (fun h => hc3 h.2), if_pos ⟨hc2, hc4⟩]; rfl)
                obtain ⟨mo, hmo⟩ : ∃ mo, mo = tornN torn xe := ⟨_, rfl⟩
                have hmo3 : (mo : Int) = min (max torn 0) (5 + (xl : Int)) := by rw [hmo, HXL.out]; unfold tornN; omega
                have hmo2 : mo ≤ 10000 := by omega
                rw [← hmo] at HNX
                have HMO3 := Lib.hid hmo3
                have HMOL : Hid (mo ≤ 4006) := Lib.hid (by omega)
                have hk0 : (k < 0 ∧ (nn : Int) = 0) ∨ (¬ k < 0 ∧ (nn : Int) = k) := by omega
                have htt : (torn < 0) ∨ (¬ torn < 0 ∧ 5 + (xl : Int) < torn) ∨ (¬ torn < 0 ∧ ¬ 5 + (xl : Int) < torn) := by omega
                clear hmo hc1 hc2 hc3 hc4 hmo3
                rcases hk0 with ⟨hk1, hk2⟩ | ⟨hk1, hk2⟩
                · have hd5 : decide (k < 0) = true := decide_eq_true hk1
                  have he5 : ((nn : Int) == 0) = true := by rw [beq_iff_eq]; exact hk2
                  clear hk2
                  rcases htt with h1 | ⟨h1, h2⟩ | ⟨h1, h2⟩
                  · have hd6 : decide (torn < 0) = true := decide_eq_true h1
                    as_aux_lemma =>
                      go_wp2_with (first
                        | (with_reducible refine wpList_load_mid rfl 73 (.tmp 26) rfl gw (ow + i * 2) (by with_unfolding_all rfl) (wrC ⟨(rk : Int), Ae, ce, xe⟩) _ HRW.out Try.underlying73 rfl (info73 _) ?_)
                        | (with_reducible refine wpList_alloc_run rfl 73 rfl (wrC default).toArray zero73 ?_)
                        | (refine wpList_store_blk rfl 73 (.tmp 14) (.tmp 27) rfl wo.heap.size 73 (wrC default).toArray (wrC ⟨(rk : Int), Ae, ce, xe⟩).toArray (by rfl) (by rfl) (Blk.new wo 73 _) rfl (info73 _) (one_wr _) ?_
                           intro w4 hb4 hf4
                           have hF4 : Fr nob wo w4 := ((Fr.refl nob wo).alloc _).then hf4 (fun i hi => Or.inr (by unfold one at hi; omega))
                           have hxl9 := HXL.out
                           have hcr : w4.cell? ⟨wo.heap.size, 0, none⟩ = some (.int .i64 (rk : Int)) := hb4.cell 0
                           have hcs : w4.cell? ⟨wo.heap.size, 1, none⟩ = some (.slice Ae xl ce) := by rw [hxl9]; exact hb4.cell 1
                           have HD4 := Lib.hid (HDD.out.keep hF4.below_nob)
                           have HF4 : Hid (Fr (dfoot d g n vs) W w4) := Lib.hid (HFF.out.trans (hF4.mono (fun _ _ h => h.elim)))
                           have HE4 := Lib.hid (HEE.out.keep hF4.below_nob)
                           have HBX := Lib.hid (HB4.out.keep hF4.below_nob)
                           have HBW := Lib.hid hb4
                           clear hb4 hf4 hF4 hxl9
                           simp only [Act.put, List.setIfInBounds_toArray, List.set_cons_zero, List.set_cons_succ])
                        | (with_reducible refine wpList_load_blk rfl 73 (.tmp 14) rfl wo.heap.size 73 (wrC ⟨(rk : Int), Ae, ce, xe⟩).toArray _ (by with_unfolding_all rfl) HBW.out Try.underlying73 rfl (info73 _) ?_
                           simp only [Act.put, List.setIfInBounds_toArray, List.set_cons_zero, List.set_cons_succ])
                        | (go_at_call 82
                           refine (put_anyI HD4.out rk hkn hn Ae ce xe mo hx4 HC.out.1 HC.out.2.1 HBX.out HC.out.2.2 hmo2 (by have := HLN.out rk; omega) _ (by have := HMO3.out; omega)).mono ?_
                           rintro en w5 ⟨rfl, hpt⟩)
                        | fail)
                      go_roundw
                      case rel =>
                        obtain ⟨vs2, q1, q2, q3⟩ := DkTo.put hkn HD4.out HF4.out HRR.out hpt
                        obtain ⟨v', p1, p2, p3⟩ := hpt
                        have hE5 : WsO w5 (.slice (some ⟨gw, ow, none⟩) m c3) sl := by
                          refine Own.fr HE4.out p2 (fun q hq hq2 => ?_)
                          rcases hq with rfl | hq
                          · exact Own.blk_ne HE4.out HD4.out.arr (by decide) hq2
                          · exact own_disj (HD4.out.own rk hkn) HE4.out (by decide) q hq hq2
                        have hnx := HSTEP.out.trans HNX.out
                        refine ⟨i + 1, vs2, (cur.set rk (cur.getD rk [] ++ (recB xe).take mo), nn + 1), by omega, by go_num, by go_num, hnx.symm, by simp only; omega, q1, q2, q3, fun j => ?_, hE5⟩
                        have h8 := HLN.out j
                        have h9 := HLN.out rk
                        have h7 := HMOL.out
                        simp only [List.getD_eq_getElem?_getD, List.getElem?_set] at h8 h9 ⊢
                        split
                        · split
                          · simp only [Option.getD_some, List.length_append, List.length_take, length_recB]; omega
                          · simp
                        · omega
                      case measure => simp [intOf]; omega
                  · have hd6 : decide (torn < 0) = false := decide_eq_false h1
                    have hd7 : decide (5 + (xl : Int) < torn) = true := decide_eq_true h2
                    as_aux_lemma =>
                      go_wp2_with (first
                        | (with_reducible refine wpList_load_mid rfl 73 (.tmp 26) rfl gw (ow + i * 2) (by with_unfolding_all rfl) (wrC ⟨(rk : Int), Ae, ce, xe⟩) _ HRW.out Try.underlying73 rfl (info73 _) ?_)
                        | (with_reducible refine wpList_alloc_run rfl 73 rfl (wrC default).toArray zero73 ?_)
                        | (refine wpList_store_blk rfl 73 (.tmp 14) (.tmp 27) rfl wo.heap.size 73 (wrC default).toArray (wrC ⟨(rk : Int), Ae, ce, xe⟩).toArray (by rfl) (by rfl) (Blk.new wo 73 _) rfl (info73 _) (one_wr _) ?_
                           intro w4 hb4 hf4
                           have hF4 : Fr nob wo w4 := ((Fr.refl nob wo).alloc _).then hf4 (fun i hi => Or.inr (by unfold one at hi; omega))
                           have hxl9 := HXL.out
                           have hcr : w4.cell? ⟨wo.heap.size, 0, none⟩ = some (.int .i64 (rk : Int)) := hb4.cell 0
                           have hcs : w4.cell? ⟨wo.heap.size, 1, none⟩ = some (.slice Ae xl ce) := by rw [hxl9]; exact hb4.cell 1
                           have HD4 := Lib.hid (HDD.out.keep hF4.below_nob)
                           have HF4 : Hid (Fr (dfoot d g n vs) W w4) := Lib.hid (HFF.out.trans (hF4.mono (fun _ _ h => h.elim)))
                           have HE4 := Lib.hid (HEE.out.keep hF4.below_nob)
                           have HBX := Lib.hid (HB4.out.keep hF4.below_nob)
                           have HBW := Lib.hid hb4
                           clear hb4 hf4 hF4 hxl9
                           simp only [Act.put, List.setIfInBounds_toArray, List.set_cons_zero, List.set_cons_succ])
                        | (with_reducible refine wpList_load_blk rfl 73 (.tmp 14) rfl wo.heap.size 73 (wrC ⟨(rk : Int), Ae, ce, xe⟩).toArray _ (by with_unfolding_all rfl) HBW.out Try.underlying73 rfl (info73 _) ?_
                           simp only [Act.put, List.setIfInBounds_toArray, List.set_cons_zero, List.set_cons_succ])
                        | (go_at_call 82
                           refine (put_anyI HD4.out rk hkn hn Ae ce xe mo hx4 HC.out.1 HC.out.2.1 HBX.out HC.out.2.2 hmo2 (by have := HLN.out rk; omega) _ (by have := HMO3.out; omega)).mono ?_
                           rintro en w5 ⟨rfl, hpt⟩)
                        | fail)
                      go_roundw
                      case rel =>
                        obtain ⟨vs2, q1, q2, q3⟩ := DkTo.put hkn HD4.out HF4.out HRR.out hpt
                        obtain ⟨v', p1, p2, p3⟩ := hpt
                        have hE5 : WsO w5 (.slice (some ⟨gw, ow, none⟩) m c3) sl := by
                          refine Own.fr HE4.out p2 (fun q hq hq2 => ?_)
                          rcases hq with rfl | hq
                          · exact Own.blk_ne HE4.out HD4.out.arr (by decide) hq2
                          · exact own_disj (HD4.out.own rk hkn) HE4.out (by decide) q hq hq2
                        have hnx := HSTEP.out.trans HNX.out
                        refine ⟨i + 1, vs2, (cur.set rk (cur.getD rk [] ++ (recB xe).take mo), nn + 1), by omega, by go_num, by go_num, hnx.symm, by simp only; omega, q1, q2, q3, fun j => ?_, hE5⟩
                        have h8 := HLN.out j
                        have h9 := HLN.out rk
                        have h7 := HMOL.out
                        simp only [List.getD_eq_getElem?_getD, List.getElem?_set] at h8 h9 ⊢
                        split
                        · split
                          · simp only [Option.getD_some, List.length_append, List.length_take, length_recB]; omega
                          · simp
                        · omega
                      case measure => simp [intOf]; omega
                  · have hd6 : decide (torn < 0) = false := decide_eq_false h1
                    have hd7 : decide (5 + (xl : Int) < torn) = false := decide_eq_false h2
                    as_aux_lemma =>
                      go_wp2_with (first
                        | (with_reducible refine wpList_load_mid rfl 73 (.tmp 26) rfl gw (ow + i * 2) (by with_unfolding_all rfl) (wrC ⟨(rk : Int), Ae, ce, xe⟩) _ HRW.out Try.underlying73 rfl (info73 _) ?_)
                        | (with_reducible refine wpList_alloc_run rfl 73 rfl (wrC default).toArray zero73 ?_)
                        | (refine wpList_store_blk rfl 73 (.tmp 14) (.tmp 27) rfl wo.heap.size 73 (wrC default).toArray (wrC ⟨(rk : Int), Ae, ce, xe⟩).toArray (by rfl) (by rfl) (Blk.new wo 73 _) rfl (info73 _) (one_wr _) ?_
                           intro w4 hb4 hf4
                           have hF4 : Fr nob wo w4 := ((Fr.refl nob wo).alloc _).then hf4 (fun i hi => Or.inr (by unfold one at hi; omega))
                           have hxl9 := HXL.out
                           have hcr : w4.cell? ⟨wo.heap.size, 0, none⟩ = some (.int .i64 (rk : Int)) := hb4.cell 0
                           have hcs : w4.cell? ⟨wo.heap.size, 1, none⟩ = some (.slice Ae xl ce) := by rw [hxl9]; exact hb4.cell 1
                           have HD4 := Lib.hid (HDD.out.keep hF4.below_nob)
                           have HF4 : Hid (Fr (dfoot d g n vs) W w4) := Lib.hid (HFF.out.trans (hF4.mono (fun _ _ h => h.elim)))
                           have HE4 := Lib.hid (HEE.out.keep hF4.below_nob)
                           have HBX := Lib.hid (HB4.out.keep hF4.below_nob)
                           have HBW := Lib.hid hb4
                           clear hb4 hf4 hF4 hxl9
                           simp only [Act.put, List.setIfInBounds_toArray, List.set_cons_zero, List.set_cons_succ])
                        | (with_reducible refine wpList_load_blk rfl 73 (.tmp 14) rfl wo.heap.size 73 (wrC ⟨(rk : Int), Ae, ce, xe⟩).toArray _ (by with_unfolding_all rfl) HBW.out Try.underlying73 rfl (info73 _) ?_
                           simp only [Act.put, List.setIfInBounds_toArray, List.set_cons_zero, List.set_cons_succ])
                        | (go_at_call 82
                           refine (put_anyI HD4.out rk hkn hn Ae ce xe mo hx4 HC.out.1 HC.out.2.1 HBX.out HC.out.2.2 hmo2 (by have := HLN.out rk; omega) _ (by have := HMO3.out; omega)).mono ?_
                           rintro en w5 ⟨rfl, hpt⟩)
                        | fail)
                      go_roundw
                      case rel =>
                        obtain ⟨vs2, q1, q2, q3⟩ := DkTo.put hkn HD4.out HF4.out HRR.out hpt
                        obtain ⟨v', p1, p2, p3⟩ := hpt
                        have hE5 : WsO w5 (.slice (some ⟨gw, ow, none⟩) m c3) sl := by
                          refine Own.fr HE4.out p2 (fun q hq hq2 => ?_)
                          rcases hq with rfl | hq
                          · exact Own.blk_ne HE4.out HD4.out.arr (by decide) hq2
                          · exact own_disj (HD4.out.own rk hkn) HE4.out (by decide) q hq hq2
                        have hnx := HSTEP.out.trans HNX.out
                        refine ⟨i + 1, vs2, (cur.set rk (cur.getD rk [] ++ (recB xe).take mo), nn + 1), by omega, by go_num, by go_num, hnx.symm, by simp only; omega, q1, q2, q3, fun j => ?_, hE5⟩
                        have h8 := HLN.out j
                        have h9 := HLN.out rk
                        have h7 := HMOL.out
                        simp only [List.getD_eq_getElem?_getD, List.getElem?_set] at h8 h9 ⊢
                        split
                        · split
                          · simp only [Option.getD_some, List.length_append, List.length_take, length_recB]; omega
                          · simp
                        · omega
                      case measure => simp [intOf]; omega
                · have hd5 : decide (k < 0) = false := decide_eq_false hk1
                  have he5 : ((nn : Int) == k) = true := by rw [beq_iff_eq]; exact hk2
                  clear hk2
                  rcases htt with h1 | ⟨h1, h2⟩ | ⟨h1, h2⟩
                  · have hd6 : decide (torn < 0) = true := decide_eq_true h1
                    as_aux_lemma =>
                      go_wp2_with (first
                        | (with_reducible refine wpList_load_mid rfl 73 (.tmp 26) rfl gw (ow + i * 2) (by with_unfolding_all rfl) (wrC ⟨(rk : Int), Ae, ce, xe⟩) _ HRW.out Try.underlying73 rfl (info73 _) ?_)
                        | (with_reducible refine wpList_alloc_run rfl 73 rfl (wrC default).toArray zero73 ?_)
                        | (refine wpList_store_blk rfl 73 (.tmp 14) (.tmp 27) rfl wo.heap.size 73 (wrC default).toArray (wrC ⟨(rk : Int), Ae, ce, xe⟩).toArray (by rfl) (by rfl) (Blk.new wo 73 _) rfl (info73 _) (one_wr _) ?_
                           intro w4 hb4 hf4
                           have hF4 : Fr nob wo w4 := ((Fr.refl nob wo).alloc _).then hf4 (fun i hi => Or.inr (by unfold one at hi; omega))
                           have hxl9 := HXL.out
                           have hcr : w4.cell? ⟨wo.heap.size, 0, none⟩ = some (.int .i64 (rk : Int)) := hb4.cell 0
                           have hcs : w4.cell? ⟨wo.heap.size, 1, none⟩ = some (.slice Ae xl ce) := by rw [hxl9]; exact hb4.cell 1
                           have HD4 := Lib.hid (HDD.out.keep hF4.below_nob)
                           have HF4 : Hid (Fr (dfoot d g n vs) W w4) := Lib.hid (HFF.out.trans (hF4.mono (fun _ _ h => h.elim)))
                           have HE4 := Lib.hid (HEE.out.keep hF4.below_nob)
                           have HBX := Lib.hid (HB4.out.keep hF4.below_nob)
                           have HBW := Lib.hid hb4
                           clear hb4 hf4 hF4 hxl9
                           simp only [Act.put, List.setIfInBounds_toArray, List.set_cons_zero, List.set_cons_succ])
                        | (with_reducible refine wpList_load_blk rfl 73 (.tmp 14) rfl wo.heap.size 73 (wrC ⟨(rk : Int), Ae, ce, xe⟩).toArray _ (by with_unfolding_all rfl) HBW.out Try.underlying73 rfl (info73 _) ?_
                           simp only [Act.put, List.setIfInBounds_toArray, List.set_cons_zero, List.set_cons_succ])
                        | (go_at_call 82
                           refine (put_anyI HD4.out rk hkn hn Ae ce xe mo hx4 HC.out.1 HC.out.2.1 HBX.out HC.out.2.2 hmo2 (by have := HLN.out rk; omega) _ (by have := HMO3.out; omega)).mono ?_
                           rintro en w5 ⟨rfl, hpt⟩)
                        | fail)
                      go_roundw
                      case rel =>
                        obtain ⟨vs2, q1, q2, q3⟩ := DkTo.put hkn HD4.out HF4.out HRR.out hpt
                        obtain ⟨v', p1, p2, p3⟩ := hpt
                        have hE5 : WsO w5 (.slice (some ⟨gw, ow, none⟩) m c3) sl := by
                          refine Own.fr HE4.out p2 (fun q hq hq2 => ?_)
                          rcases hq with rfl | hq
                          · exact Own.blk_ne HE4.out HD4.out.arr (by decide) hq2
                          · exact own_disj (HD4.out.own rk hkn) HE4.out (by decide) q hq hq2
                        have hnx := HSTEP.out.trans HNX.out
                        refine ⟨i + 1, vs2, (cur.set rk (cur.getD rk [] ++ (recB xe).take mo), nn + 1), by omega, by go_num, by go_num, hnx.symm, by simp only; omega, q1, q2, q3, fun j => ?_, hE5⟩
                        have h8 := HLN.out j
                        have h9 := HLN.out rk
                        have h7 := HMOL.out
                        simp only [List.getD_eq_getElem?_getD, List.getElem?_set] at h8 h9 ⊢
                        split
                        · split
                          · simp only [Option.getD_some, List.length_append, List.length_take, length_recB]; omega
                          · simp
                        · omega
                      case measure => simp [intOf]; omega
                  · have hd6 : decide (torn < 0) = false := decide_eq_false h1
                    have hd7 : decide (5 + (xl : Int) < torn) = true := decide_eq_true h2
                    as_aux_lemma =>
                      go_wp2_with (first
                        | (with_reducible refine wpList_load_mid rfl 73 (.tmp 26) rfl gw (ow + i * 2) (by with_unfolding_all rfl) (wrC ⟨(rk : Int), Ae, ce, xe⟩) _ HRW.out Try.underlying73 rfl (info73 _) ?_)
                        | (with_reducible refine wpList_alloc_run rfl 73 rfl (wrC default).toArray zero73 ?_)
                        | (refine wpList_store_blk rfl 73 (.tmp 14) (.tmp 27) rfl wo.heap.size 73 (wrC default).toArray (wrC ⟨(rk : Int), Ae, ce, xe⟩).toArray (by rfl) (by rfl) (Blk.new wo 73 _) rfl (info73 _) (one_wr _) ?_
                           intro w4 hb4 hf4
                           have hF4 : Fr nob wo w4 := ((Fr.refl nob wo).alloc _).then hf4 (fun i hi => Or.inr (by unfold one at hi; omega))
                           have hxl9 := HXL.out
                           have hcr : w4.cell? ⟨wo.heap.size, 0, none⟩ = some (.int .i64 (rk : Int)) := hb4.cell 0
                           have hcs : w4.cell? ⟨wo.heap.size, 1, none⟩ = some (.slice Ae xl ce) := by rw [hxl9]; exact hb4.cell 1
                           have HD4 := Lib.hid (HDD.out.keep hF4.below_nob)
                           have HF4 : Hid (Fr (dfoot d g n vs) W w4) := Lib.hid (HFF.out.trans (hF4.mono (fun _ _ h => h.elim)))
                           have HE4 := Lib.hid (HEE.out.keep hF4.below_nob)
                           have HBX := Lib.hid (HB4.out.keep hF4.below_nob)
                           have HBW := Lib.hid hb4
                           clear hb4 hf4 hF4 hxl9
                           simp only [Act.put, List.setIfInBounds_toArray, List.set_cons_zero, List.set_cons_succ])
                        | (with_reducible refine wpList_load_blk rfl 73 (.tmp 14) rfl wo.heap.size 73 (wrC ⟨(rk : Int), Ae, ce, xe⟩).toArray _ (by with_unfolding_all rfl) HBW.out Try.underlying73 rfl (info73 _) ?_
                           simp only [Act.put, List.setIfInBounds_toArray, List.set_cons_zero, List.set_cons_succ])
                        | (go_at_call 82
                           refine (put_anyI HD4.out rk hkn hn Ae ce xe mo hx4 HC.out.1 HC.out.2.1 HBX.out HC.out.2.2 hmo2 (by have := HLN.out rk; omega) _ (by have := HMO3.out; omega)).mono ?_
                           rintro en w5 ⟨rfl, hpt⟩)
                        | fail)
                      go_roundw
                      case rel =>
                        obtain ⟨vs2, q1, q2, q3⟩ := DkTo.put hkn HD4.out HF4.out HRR.out hpt
                        obtain ⟨v', p1, p2, p3⟩ := hpt
                        have hE5 : WsO w5 (.slice (some ⟨gw, ow, none⟩) m c3) sl := by
                          refine Own.fr HE4.out p2 (fun q hq hq2 => ?_)
                          rcases hq with rfl | hq
                          · exact Own.blk_ne HE4.out HD4.out.arr (by decide) hq2
                          · exact own_disj (HD4.out.own rk hkn) HE4.out (by decide) q hq hq2
                        have hnx := HSTEP.out.trans HNX.out
                        refine ⟨i + 1, vs2, (cur.set rk (cur.getD rk [] ++ (recB xe).take mo), nn + 1), by omega, by go_num, by go_num, hnx.symm, by simp only; omega, q1, q2, q3, fun j => ?_, hE5⟩
                        have h8 := HLN.out j
                        have h9 := HLN.out rk
                        have h7 := HMOL.out
                        simp only [List.getD_eq_getElem?_getD, List.getElem?_set] at h8 h9 ⊢
                        split
                        · split
                          · simp only [Option.getD_some, List.length_append, List.length_take, length_recB]; omega
                          · simp
                        · omega
                      case measure => simp [intOf]; omega
                  · have hd6 : decide (torn < 0) = false := decide_eq_false h1
                    have hd7 : decide (5 + (xl : Int) < torn) = false := decide_eq_false h2
                    as_aux_lemma =>
                      go_wp2_with (first
                        | (with_reducible refine wpList_load_mid rfl 73 (.tmp 26) rfl gw (ow + i * 2) (by with_unfolding_all rfl) (wrC ⟨(rk : Int), Ae, ce, xe⟩) _ HRW.out Try.underlying73 rfl (info73 _) ?_)
                        | (with_reducible refine wpList_alloc_run rfl 73 rfl (wrC default).toArray zero73 ?_)
                        | (refine wpList_store_blk rfl 73 (.tmp 14) (.tmp 27) rfl wo.heap.size 73 (wrC default).toArray (wrC ⟨(rk : Int), Ae, ce, xe⟩).toArray (by rfl) (by rfl) (Blk.new wo 73 _) rfl (info73 _) (one_wr _) ?_
                           intro w4 hb4 hf4
                           have hF4 : Fr nob wo w4 := ((Fr.refl nob wo).alloc _).then hf4 (fun i hi => Or.inr (by unfold one at hi; omega))
                           have hxl9 := HXL.out
                           have hcr : w4.cell? ⟨wo.heap.size, 0, none⟩ = some (.int .i64 (rk : Int)) := hb4.cell 0
                           have hcs : w4.cell? ⟨wo.heap.size, 1, none⟩ = some (.slice Ae xl ce) := by rw [hxl9]; exact hb4.cell 1
                           have HD4 := Lib.hid (HDD.out.keep hF4.below_nob)
                           have HF4 : Hid (Fr (dfoot d g n vs) W w4) := Lib.hid (HFF.out.trans (hF4.mono (fun _ _ h => h.elim)))
                           have HE4 := Lib.hid (HEE.out.keep hF4.below_nob)
                           have HBX := Lib.hid (HB4.out.keep hF4.below_nob)
                           have HBW := Lib.hid hb4
                           clear hb4 hf4 hF4 hxl9
                           simp only [Act.put, List.setIfInBounds_toArray, List.set_cons_zero, List.set_cons_succ])
                        | (with_reducible refine wpList_load_blk rfl 73 (.tmp 14) rfl wo.heap.size 73 (wrC ⟨(rk : Int), Ae, ce, xe⟩).toArray _ (by with_unfolding_all rfl) HBW.out Try.underlying73 rfl (info73 _) ?_
                           simp only [Act.put, List.setIfInBounds_toArray, List.set_cons_zero, List.set_cons_succ])
                        | (go_at_call 82
                           refine (put_anyI HD4.out rk hkn hn Ae ce xe mo hx4 HC.out.1 HC.out.2.1 HBX.out HC.out.2.2 hmo2 (by have := HLN.out rk; omega) _ (by have := HMO3.out; omega)).mono ?_
                           rintro en w5 ⟨rfl, hpt⟩)
                        | fail)
                      go_roundw
                      case rel =>
                        obtain ⟨vs2, q1, q2, q3⟩ := DkTo.put hkn HD4.out HF4.out HRR.out hpt
                        obtain ⟨v', p1, p2, p3⟩ := hpt
                        have hE5 : WsO w5 (.slice (some ⟨gw, ow, none⟩) m c3) sl := by
                          refine Own.fr HE4.out p2 (fun q hq hq2 => ?_)
                          rcases hq with rfl | hq
                          · exact Own.blk_ne HE4.out HD4.out.arr (by decide) hq2
                          · exact own_disj (HD4.out.own rk hkn) HE4.out (by decide) q hq hq2
                        have hnx := HSTEP.out.trans HNX.out
                        refine ⟨i + 1, vs2, (cur.set rk (cur.getD rk [] ++ (recB xe).take mo), nn + 1), by omega, by go_num, by go_num, hnx.symm, by simp only; omega, q1, q2, q3, fun j => ?_, hE5⟩
                        have h8 := HLN.out j
                        have h9 := HLN.out rk
                        have h7 := HMOL.out
                        simp only [List.getD_eq_getElem?_getD, List.getElem?_set] at h8 h9 ⊢
                        split
                        · split
                          · simp only [Option.getD_some, List.length_append, List.length_take, length_recB]; omega
                          · simp
                        · omega
                      case measure => simp [intOf]; omega
              · have HNX : Hid (partStep room k torn (cur, nn) ⟨(rk : Int), Ae, ce, xe⟩ = (cur, nn)) := Lib.hid (by unfold partStep; rw [if_neg hc1, if_neg (fun h => hc3 h.2), if_neg (fun h => hc4 h.2)])
                have hk0 : (k < 0 ∧ ((nn : Int) == 0) = false) ∨ (¬ k < 0 ∧ ((nn : Int) == k) = false) := by
                  by_cases hkk : k < 0
                  · exact .inl ⟨hkk, by rw [beq_eq_false_iff_ne]; omega⟩
                  · exact .inr ⟨hkk, by rw [beq_eq_false_iff_ne]; omega⟩
                clear hc1 hc2 hc3 hc4
                rcases hk0 with ⟨hk1, hk2⟩ | ⟨hk1, hk2⟩
                · have hd5 : decide (k < 0) = true := decide_eq_true hk1
                  as_aux_lemma =>
                    go_wp2_with (first
                      | (with_reducible refine wpList_load_mid rfl 73 (.tmp 26) rfl gw (ow + i * 2) (by with_unfolding_all rfl) (wrC ⟨(rk : Int), Ae, ce, xe⟩) _ HRW.out Try.underlying73 rfl (info73 _) ?_)
                      | (with_reducible refine wpList_alloc_run rfl 73 rfl (wrC default).toArray zero73 ?_)
                      | (refine wpList_store_blk rfl 73 (.tmp 14) (.tmp 27) rfl wo.heap.size 73 (wrC default).toArray (wrC ⟨(rk : Int), Ae, ce, xe⟩).toArray (by rfl) (by rfl) (Blk.new wo 73 _) rfl (info73 _) (one_wr _) ?_
                         intro w4 hb4 hf4
                         have hF4 : Fr nob wo w4 := ((Fr.refl nob wo).alloc _).then hf4 (fun i hi => Or.inr (by unfold one at hi; omega))
                         have hxl9 := HXL.out
                         have hcr : w4.cell? ⟨wo.heap.size, 0, none⟩ = some (.int .i64 (rk : Int)) := hb4.cell 0
                         have hcs : w4.cell? ⟨wo.heap.size, 1, none⟩ = some (.slice Ae xl ce) := by rw [hxl9]; exact hb4.cell 1
                         have HD4 := Lib.hid (HDD.out.keep hF4.below_nob)
                         have HF4 : Hid (Fr (dfoot d g n vs) W w4) := Lib.hid (HFF.out.trans (hF4.mono (fun _ _ h => h.elim)))
                         have HE4 := Lib.hid (HEE.out.keep hF4.below_nob)
                         have HBX := Lib.hid (HB4.out.keep hF4.below_nob)
                         have HBW := Lib.hid hb4
                         clear hb4 hf4 hF4 hxl9
                         simp only [Act.put, List.setIfInBounds_toArray, List.set_cons_zero, List.set_cons_succ])
                      | fail)
                    go_roundw
                    case rel =>
                      have hnx := HSTEP.out.trans HNX.out
                      refine ⟨i + 1, vs1, (cur, nn), by omega, by go_num, by go_num, hnx.symm, by simp only; omega, HD4.out, HF4.out, HRR.out, fun j => ?_, HE4.out⟩
                      have h8 : (cur.getD j []).length ≤ 60000 + i * 4006 := HLN.out j
                      show (cur.getD j []).length ≤ 60000 + (i + 1) * 4006
                      omega
                    case measure => simp [intOf]; omega
                · have hd5 : decide (k < 0) = false := decide_eq_false hk1
                  as_aux_lemma =>
                    go_wp2_with (first
                      | (with_reducible refine wpList_load_mid rfl 73 (.tmp 26) rfl gw (ow + i * 2) (by with_unfolding_all rfl) (wrC ⟨(rk : Int), Ae, ce, xe⟩) _ HRW.out Try.underlying73 rfl (info73 _) ?_)
                      | (with_reducible refine wpList_alloc_run rfl 73 rfl (wrC default).toArray zero73 ?_)
                      | (refine wpList_store_blk rfl 73 (.tmp 14) (.tmp 27) rfl wo.heap.size 73 (wrC default).toArray (wrC ⟨(rk : Int), Ae, ce, xe⟩).toArray (by rfl) (by rfl) (Blk.new wo 73 _) rfl (info73 _) (one_wr _) ?_
                         intro w4 hb4 hf4
                         have hF4 : Fr nob wo w4 := ((Fr.refl nob wo).alloc _).then hf4 (fun i hi => Or.inr (by unfold one at hi; omega))
                         have hxl9 := HXL.out
                         have hcr : w4.cell? ⟨wo.heap.size, 0, none⟩ = some (.int .i64 (rk : Int)) := hb4.cell 0
                         have hcs : w4.cell? ⟨wo.heap.size, 1, none⟩ = some (.slice Ae xl ce) := by rw [hxl9]; exact hb4.cell 1
                         have HD4 := Lib.hid (HDD.out.keep hF4.below_nob)
                         have HF4 : Hid (Fr (dfoot d g n vs) W w4) := Lib.hid (HFF.out.trans (hF4.mono (fun _ _ h => h.elim)))
                         have HE4 := Lib.hid (HEE.out.keep hF4.below_nob)
                         have HBX := Lib.hid (HB4.out.keep hF4.below_nob)
                         have HBW := Lib.hid hb4
                         clear hb4 hf4 hF4 hxl9
                         simp only [Act.put, List.setIfInBounds_toArray, List.set_cons_zero, List.set_cons_succ])
                      | fail)
                    go_roundw
                    case rel =>
                      have hnx := HSTEP.out.trans HNX.out
                      refine ⟨i + 1, vs1, (cur, nn), by omega, by go_num, by go_num, hnx.symm, by simp only; omega, HD4.out, HF4.out, HRR.out, fun j => ?_, HE4.out⟩
                      have h8 : (cur.getD j []).length ≤ 60000 + i * 4006 := HLN.out j
                      show (cur.getD j []).length ≤ 60000 + (i + 1) * 4006
                      omega
                    case measure => simp [intOf]; omega
          · have he2 : ((rk : Int) == room) = false := by rw [beq_eq_false_iff_ne]; exact hc2
            have HNX : Hid (partStep room k torn (cur, nn) ⟨(rk : Int), Ae, ce, xe⟩ = (cur, nn)) := Lib.hid (by unfold partStep; rw [if_neg hc1, if_neg (fun h => hc2 h.1), if_neg (fun h => hc2 h.1)])
            clear hc1 hc2
            as_aux_lemma =>
              go_wp2_with (first
                | (with_reducible refine wpList_load_mid rfl 73 (.tmp 26) rfl gw (ow + i * 2) (by with_unfolding_all rfl) (wrC ⟨(rk : Int), Ae, ce, xe⟩) _ HRW.out Try.underlying73 rfl (info73 _) ?_)
                | (with_reducible refine wpList_alloc_run rfl 73 rfl (wrC default).toArray zero73 ?_)
                | (refine wpList_store_blk rfl 73 (.tmp 14) (.tmp 27) rfl wo.heap.size 73 (wrC default).toArray (wrC ⟨(rk : Int), Ae, ce, xe⟩).toArray (by rfl) (by rfl) (Blk.new wo 73 _) rfl (info73 _) (one_wr _) ?_
                   intro w4 hb4 hf4
                   have hF4 : Fr nob wo w4 := ((Fr.refl nob wo).alloc _).then hf4 (fun i hi => Or.inr (by unfold one at hi; omega))
                   have hxl9 := HXL.out
                   have hcr : w4.cell? ⟨wo.heap.size, 0, none⟩ = some (.int .i64 (rk : Int)) := hb4.cell 0
                   have hcs : w4.cell? ⟨wo.heap.size, 1, none⟩ = some (.slice Ae xl ce) := by rw [hxl9]; exact hb4.cell 1
                   have HD4 := Lib.hid (HDD.out.keep hF4.below_nob)
                   have HF4 : Hid (Fr (dfoot d g n vs) W w4) := Lib.hid (HFF.out.trans (hF4.mono (fun _ _ h => h.elim)))
                   have HE4 := Lib.hid (HEE.out.keep hF4.below_nob)
                   have HBX := Lib.hid (HB4.out.keep hF4.below_nob)
                   have HBW := Lib.hid hb4
                   clear hb4 hf4 hF4 hxl9
                   simp only [Act.put, List.setIfInBounds_toArray, List.set_cons_zero, List.set_cons_succ])
                | fail)
              go_roundw
              case rel =>
                have hnx := HSTEP.out.trans HNX.out
                refine ⟨i + 1, vs1, (cur, nn), by omega, by go_num, by go_num, hnx.symm, by simp only; omega, HD4.out, HF4.out, HRR.out, fun j => ?_, HE4.out⟩
                have h8 : (cur.getD j []).length ≤ 60000 + i * 4006 := HLN.out j
                show (cur.getD j []).length ≤ 60000 + (i + 1) * 4006
                omega
              case measure => simp [intOf]; omega
      · obtain rfl : i = m := by omega
        have hd : decide ((i : Int) < (i : Int)) = false := decide_eq_false (by omega)
        have htk : sl.take i = sl := List.take_of_length_le (by rw [HSM.out]; omega)
        have hst := HST.out
        rw [htk] at hst
        have HST2 := Lib.hid hst
        have hcd : wr.cell? ⟨d, 1, none⟩ = some (.bool br) := HDD.out.blk.cell 1
        have hfd := HDD.out.blk.frozen 1
        clear htk hst
        go_wp2_with fail
        go_ret
        refine ⟨rfl, vs1, ?_, HFF.out.setCell' (.inl (.inl rfl)) _, HRR.out⟩
        rw [← HST2.out]
        exact HDD.out.break_ true
  · simp only [if_neg h0]
    have hne : (rr != 0) = true := by simpa using h0
    clear HZ h0
    go_enter Try.func55, Try.ntmps55
    go_wp2_with (first
      | (go_at_call 81
         refine HMAY.out.mono ?_
         rintro e w2 ⟨rfl, hb2⟩)
      | fail)
    go_ret
    exact ⟨rfl, DkTo.same HD.out hb2⟩
end Go.Proofs.Ytnlkjhhocehhaaa
