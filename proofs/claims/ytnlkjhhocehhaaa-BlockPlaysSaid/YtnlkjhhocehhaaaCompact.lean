/- Compact: a room that is written anew. Rooms, kind, lists. -/
import Derived.Test.YtnlkjhhocehhaaaFew
import Derived.Test.YtnlkjhhocehhaaaBlockScans
namespace Go.Proofs.Ytnlkjhhocehhaaa
open Go Go.RowKit Go.Proofs Sha Go.BigFrame
set_option linter.unusedVariables false
theorem Dk.row_new {w W : World} {d g n : Nat} {vs : List Value} {l : List (List UInt8)} {br : Bool} (h : Dk w W d g n vs l br) (k : Nat) (hk : k < n) (v : Value) (x : List UInt8) (ho : Own W 5 1 v x.length (byteVals x)) (hnew : ∀ q, rowOf v q → w.heap.size ≤ q) (hfar : ∀ q, rowOf v q → ¬ dfoot d g n vs q) :
    Dk w (W.setCell ⟨g, k, none⟩ v) d g n (vs.set k v) (l.set k x) br := by
  have hS : Fr (one g) W (W.setCell ⟨g, k, none⟩ v) := (Fr.refl (one g) W).setCell' (.inl rfl) _
  have gs : ∀ i, i < n → (vs.set k v).getD i undef = if i = k then v else vs.getD i undef := fun i hi => by
    have hl1 := h.n1
    simp only [List.getD_eq_getElem?_getD, List.getElem?_set]
    by_cases e : k = i
    · subst e; rw [if_pos rfl, if_pos (by omega), if_pos rfl]; rfl
    · rw [if_neg e, if_neg (fun h => e h.symm)]
  have gl : ∀ i, i < n → (l.set k x).getD i [] = if i = k then x else l.getD i [] := fun i hi => by
    have hl1 := h.n2
    simp only [List.getD_eq_getElem?_getD, List.getElem?_set]
    by_cases e : k = i
    · subst e; rw [if_pos rfl, if_pos (by omega), if_pos rfl]; rfl
    · rw [if_neg e, if_neg (fun h => e h.symm)]
  have hvg : ¬ rowOf v g := fun hq => hfar g hq (.inr (.inl rfl))
  refine ⟨h.blk.fr hS (fun e => by unfold one at e; exact h.dg e), ?_, by rw [List.length_set]; exact h.n1, by rw [List.length_set]; exact h.n2, fun i hi => ?_, fun i j hi hj hij q hq1 hq2 => ?_, h.dnew, fun i hi q hq => ?_, h.bel.trans (hS.below h.bel.size (fun q hq => by unfold one at hq; subst hq; exact h.dnew.2))⟩
  · have := h.arr.set_ k v
    simpa using this
  · rw [gs i hi, gl i hi]
    by_cases e : i = k
    · subst e
      rw [if_pos rfl, if_pos rfl]
      exact Own.fr ho hS (fun q hq hq2 => by unfold one at hq; subst hq; exact hvg hq2)
    · rw [if_neg e, if_neg e]
      exact Own.fr (h.own i hi) hS (fun q hq hq2 => by unfold one at hq; subst hq; exact h.row_g i hi hq2)
  · rw [gs i hi] at hq1
    rw [gs j hj] at hq2
    by_cases e1 : i = k
    · rw [if_pos e1] at hq1
      rw [if_neg (fun e2 => hij (e1.trans e2.symm))] at hq2
      exact hfar q hq1 (.inr (.inr ⟨j, hj, hq2⟩))
    · rw [if_neg e1] at hq1
      by_cases e2 : j = k
      · rw [if_pos e2] at hq2
        exact hfar q hq2 (.inr (.inr ⟨i, hi, hq1⟩))
      · rw [if_neg e2] at hq2
        exact h.dis i j hi hj hij q hq1 hq2
  · rw [gs i hi] at hq
    by_cases e : i = k
    · rw [if_pos e] at hq; exact hnew q hq
    · rw [if_neg e] at hq; exact h.rnew i hi q hq
def longB (x : List UInt8) : Bool := decide (4000 < x.length)
def comD (br : Bool) (n : Nat) (room : Int) (want : List (List UInt8)) : Int :=
  if br then 13 else if room < 0 ∨ (n : Int) ≤ room then 5 else if want.any longB then 4 else if 60000 < (recs want).length then 7 else 0
theorem rooms_nil (W : World) : Calls Try.prog 65 #[.pointer none] W fun e w' => e = .returned (.int .i64 0) ∧ W = w' := by
  go_enter Try.func65, Try.ntmps65
  go_wp2_with fail
  go_ret
  exact ⟨rfl, rfl⟩
theorem rooms_any {w W : World} {d g n : Nat} {vs : List Value} {l : List (List UInt8)} {br : Bool} (h : Dk w W d g n vs l br) : Calls Try.prog 65 #[dP d] W fun e w' => e = .returned (.int .i64 (n : Int)) ∧ W = w' := by
  have hc : W.cell? ⟨d, 0, none⟩ = some (.slice (some ⟨g, 0, none⟩) n n) := h.blk.cell 0
  clear h
  go_enter Try.func65, Try.ntmps65
  go_wp2_with fail
  go_ret
  exact ⟨rfl, rfl⟩
set_option maxRecDepth 100000 in
set_option maxHeartbeats 8000000 in
theorem compact_any {w W : World} {d g n : Nat} {vs : List Value} {l : List (List UInt8)} {br : Bool} (h : Dk w W d g n vs l br) (hn : n ≤ 100) (A : Option Addr) (m c : Nat) (want : List (List UInt8)) (hw : Ls W (.slice A m c) want) (hm : want.length ≤ 20) (hx : ∀ x ∈ want, x.length ≤ 10000) (room : Int) :
    Calls Try.prog 58 #[dP d, .int .i64 room, .slice A m c] W fun e W' => e = .returned (.int .i64 (comD br n room want)) ∧ DkTo w d g n vs W (if comD br n room want = 0 then l.set room.toNat (recs want) else l) br W' := by
  obtain ⟨i0, hi0, hz0, hz1, hz2⟩ := info_parts info5
  obtain ⟨A', c', hv', hmc, hcm⟩ := hw.shape
  injection hv' with e1 e2 e3
  have hml : m = want.length := e2
  have hmc' : m ≤ c := by omega
  have hcm' : c ≤ maxLen := by omega
  clear e1 e2 e3 hmc hcm
  have HD := Lib.hid h
  have HW := Lib.hid hw
  have HX := Lib.hid hx
  have HML := Lib.hid hml
  have hm20 : m ≤ 20 := by omega
  have hbr := Lib.hid (broken_any h)
  have hcd : W.cell? ⟨d, 0, none⟩ = some (.slice (some ⟨g, 0, none⟩) n n) := h.blk.cell 0
  clear h hw hx hml
  cases br with
  | true =>
    have hcom : comD true n room want = 13 := by unfold comD; rw [if_pos rfl]
    have HCOM := Lib.hid hcom
    rw [hcom, if_neg (by decide)]
    clear hcom
    go_enter Try.func58, Try.ntmps58
    go_wp2_with (first
      | (go_at_call 56
         refine hbr.out.mono ?_
         rintro e w1 ⟨rfl, rfl⟩)
      | fail)
    go_ret
    exact ⟨rfl, DkTo.same HD.out (Below.refl _ _)⟩
  | false =>
    by_cases hr0 : room < 0
    · have hcom : comD false n room want = 5 := by unfold comD; rw [if_neg (by simp), if_pos (.inl hr0)]
      rw [hcom, if_neg (by decide)]
      have hd1 : decide (room < 0) = true := decide_eq_true hr0
      clear hcom
      go_enter Try.func58, Try.ntmps58
      go_wp2_with (first
        | (go_at_call 56
           refine hbr.out.mono ?_
           rintro e w1 ⟨rfl, rfl⟩)
        | fail)
      go_ret
      exact ⟨rfl, DkTo.same HD.out (Below.refl _ _)⟩
    · have hd1 : decide (room < 0) = false := decide_eq_false hr0
      by_cases hrn : (n : Int) ≤ room
      · have hcom : comD false n room want = 5 := by unfold comD; rw [if_neg (by simp), if_pos (.inr hrn)]
        rw [hcom, if_neg (by decide)]
        have hd2 : decide ((n : Int) ≤ room) = true := decide_eq_true hrn
        clear hcom
        go_enter Try.func58, Try.ntmps58
        go_wp2_with (first
          | (go_at_call 56
             refine hbr.out.mono ?_
             rintro e w1 ⟨rfl, rfl⟩)
          | fail)
        go_ret
        exact ⟨rfl, DkTo.same HD.out (Below.refl _ _)⟩
      · obtain ⟨k, rfl⟩ : ∃ k : Nat, room = (k : Int) := ⟨room.toNat, by omega⟩
        have hkn : k < n := by omega
        have hd2 : decide ((n : Int) ≤ (k : Int)) = false := decide_eq_false hrn
        have hd3 : decide (n ≤ k) = false := decide_eq_false (by omega)
        rw [Int.toNat_natCast]
        have hcom : comD false n (k : Int) want = if want.any longB then 4 else if 60000 < (recs want).length then 7 else 0 := by
          unfold comD; rw [if_neg (by simp), if_neg (by omega)]
        rw [hcom]
        clear hcom hr0 hrn
        obtain ⟨cd, hcd0⟩ : ∃ cd : Int, cd = if want.any longB then 4 else if 60000 < (recs want).length then 7 else 0 := ⟨_, rfl⟩
        rw [← hcd0]
        have HCD := Lib.hid hcd0
        clear hcd0
        obtain ⟨lp, hlp⟩ : ∃ lp, lp = if cd = 0 then l.set k (recs want) else l := ⟨_, rfl⟩
        rw [← hlp]
        have HLP := Lib.hid hlp
        clear hlp
        go_enter Try.func58, Try.ntmps58
        go_wp2_with (first
          | (go_at_call 56
             refine hbr.out.mono ?_
             rintro e w1 ⟨rfl, rfl⟩)
          | fail)
        have hfd : Hid (∀ k, dfoot d g n vs k → k < W.heap.size) := Lib.hid (fun k hk => by
          rcases hk with rfl | rfl | ⟨i, hi, hk⟩
          · exact HD.out.blk.lt
          · exact HD.out.arr.lt
          · obtain ⟨cur, hb⟩ := (HD.out.own i hi).own_block hk
            exact hb.lt)
        go_loopw [7, 27] (fun c7 c27 wr => ∃ i : Nat, i ≤ m ∧ c27 = .int .i64 (i : Int) ∧ (∀ x ∈ want.take i, x.length ≤ 4000) ∧ Own wr 5 1 c7 (recs (want.take i)).length (byteVals (recs (want.take i))) ∧ (∀ k, rowOf c7 k → W.heap.size ≤ k) ∧ Below W.heap.size W wr) (fun _ c27 _ => m - (intOf c27).toNat)
        case atStart => exact ⟨0, by omega, rfl, (fun x hx => by cases hx), Own.nil _ _ _, (fun k hk => by cases hk), Below.refl _ _⟩
        case round =>
          obtain ⟨i, him, rfl, h4, ho, hr, hB⟩ := hrel
          have HO := Lib.hid ho
          have HR := Lib.hid hr
          have HBL := Lib.hid hB
          have H4 := Lib.hid h4
          have hrl := recs_le _ h4
          rw [List.length_take] at hrl
          have hrl2 : (recs (want.take i)).length ≤ 80120 := by omega
          obtain ⟨rl, hrle⟩ : ∃ rl, rl = (recs (want.take i)).length := ⟨_, rfl⟩
          rw [← hrle] at hrl2
          have HRLE := Lib.hid hrle
          clear ho hr hB h4 hrl hrle
          by_cases hlt : i < m
          · have hd : decide ((i : Int) < (m : Int)) = true := decide_eq_true (by omega)
            have hil : i < want.length := by rw [← HML.out]; exact hlt
            obtain ⟨x, hx⟩ : ∃ x, x = want.getD i [] := ⟨_, rfl⟩
            have hxm : x ∈ want := by rw [hx, show want.getD i [] = want[i] by simp [hil]]; exact List.getElem_mem hil
            have hx10 := HX.out x hxm
            have htk : want.take (i + 1) = want.take i ++ [x] := by rw [List.take_succ_eq_append_getElem hil, hx]; simp [hil]
            obtain ⟨g1, o1, c1, A1, d1, e1, hg1, hc1, hb1, hn1, hn2, hn3⟩ := HW.out.at_ i hil
            injection e1 with e1 e2 e3
            clear e2
            subst e1 e3
            rw [← hx] at hc1 hb1 hn1
            have hc2 : wr.cell? ⟨g1, o1 + i, none⟩ = some (.slice A1 x.length d1) := (HBL.out.cell (p := ⟨g1, o1 + i, none⟩) hg1).trans hc1
            have hb2 := hb1.keep HBL.out
            have HTK := Lib.hid htk
            have HXM := Lib.hid hxm
            have h0i : (0 : Int) ≤ (i : Int) := by omega
            have him2 : (i : Int) < (m : Int) := by omega
            by_cases h40 : 4000 < x.length
            · have hcd4 : cd = 4 := by
                rw [HCD.out, if_pos]
                exact List.any_eq_true.2 ⟨x, HXM.out, by unfold longB; exact decide_eq_true h40⟩
              have HL := Lib.hid (record_long x A1 d1 wr h40 (by unfold maxLen at *; omega))
              have HCD4 := Lib.hid hcd4
              obtain ⟨t, ht⟩ : ∃ t, t = x.length := ⟨_, rfl⟩
              rw [← ht] at hc2 HL
              clear hcd4 hc1 hb1 hb2 hx htk hxm hx10 hn1 ht h40
              go_wp2_with (first
                | (go_at_call 48
                   refine HL.out.mono ?_
                   rintro e w6 ⟨rfl, rfl⟩)
                | fail)
              go_ret
              exact ⟨by rw [HCD4.out]; rfl, by rw [HLP.out, HCD4.out, if_neg (by decide)]; exact DkTo.same HD.out HBL.out⟩
            · have HL := Lib.hid (record_any x A1 d1 wr (by omega) hn1 hn2 hb2 hn3)
              have hrb : (recB x).length = 6 + x.length := length_recB x
              obtain ⟨t, ht⟩ : ∃ t, t = x.length := ⟨_, rfl⟩
              rw [← ht] at hc2 HL hrb h40
              rw [hrb] at HL
              have HRB := Lib.hid hrb
              have HT := Lib.hid ht
              have HO5 : Hid (Own wr 5 1 u7 rl (byteVals (recs (want.take i)))) := Lib.hid (by rw [HRLE.out]; exact HO.out)
              clear hc1 hb1 hb2 hx htk hxm hx10 hn1 hrb ht
              go_wp2_with (first
                | (go_at_call 48
                   refine HL.out.mono ?_
                   rintro e w6 ⟨v6, rfl, ho6, hr6, hb6⟩
                   obtain ⟨A6, c6, hv6, -, -⟩ := ho6.shape
                   subst hv6
                   have HO6 := Lib.hid (Own.fr HO5.out (Fr.of_below hb6 nob) (fun _ h => h.elim))
                   have HS6 : Hid (Src w6 1 A6 (6 + t) (byteVals (recB x))) := Lib.hid (Src.of_own ho6)
                   have HW6 := Lib.hid (HBL.out.trans (hb6.mono HBL.out.size))
                   clear ho6 hr6 hb6)
                | (refine wpList_append_o _ rfl (.tmp 39) (.tmp 40) 22 rfl 5 i0 (.int .u8 0) 1 1 Try.underlying22 hi0 hz0 hz1 hz2 (by rfl) (by omega) u7 rl (byteVals (recs (want.take i))) (by rfl) HO6.out A6 (6 + t) c6 (byteVals (recB x)) (by rfl) HS6.out (byteVals_one _) (by simp only [maxLen]; omega) (by omega) ?_
                   intro v8 w8 ho8 hf8 hr8
                   simp only [Act.put, List.setIfInBounds_toArray, List.set_cons_zero, List.set_cons_succ])
                | fail)
              have s6 := HW6.out.size
              go_roundw
              case rel =>
                refine ⟨i + 1, by omega, by go_num, ?_, ?_, fun k hk => (hr8 k hk).elim (HR.out k) (fun h => by omega), HW6.out.trans (hf8.below HW6.out.size (fun k hk => HR.out k hk))⟩
                · rw [HTK.out]
                  intro z hz
                  rcases List.mem_append.1 hz with hz | hz
                  · exact H4.out z hz
                  · obtain rfl : z = x := by simpa using hz
                    have := HT.out; omega
                · rw [HTK.out, recs_snoc, List.length_append, HRB.out, ← HRLE.out, byteVals_append]
                  exact ho8
              case measure => simp [intOf]; omega
          · obtain rfl : i = m := by omega
            have hd : decide ((i : Int) < (i : Int)) = false := decide_eq_false (by omega)
            have htk : want.take i = want := List.take_of_length_le (by rw [← HML.out]; exact Nat.le_refl _)
            rw [htk] at HRLE H4 HO
            have hcd2 : cd = if 60000 < rl then 7 else 0 := by
              rw [HCD.out, if_neg, HRLE.out]
              intro hh
              obtain ⟨z, hz, hz2⟩ := List.any_eq_true.1 hh
              unfold longB at hz2
              have := H4.out z hz
              have := of_decide_eq_true hz2
              omega
            have hO : Own wr 5 1 u7 rl (byteVals (recs want)) := by rw [HRLE.out]; exact HO.out
            obtain ⟨A7, c7, hv7, hc71, hc72⟩ := hO.shape
            subst hv7
            have HO7 := Lib.hid hO
            have HCD2 := Lib.hid hcd2
            clear htk hcd2 hO
            by_cases h6 : 60000 < rl
            · have hd6 : decide ((60000 : Int) < (rl : Int)) = true := decide_eq_true (by omega)
              have hd66 : decide (60000 < rl) = true := decide_eq_true h6
              go_wp2_with fail
              go_ret
              exact ⟨by rw [HCD2.out, if_pos h6]; rfl, by rw [HLP.out, HCD2.out, if_pos h6, if_neg (by decide)]; exact DkTo.same HD.out HBL.out⟩
            · have hd6 : decide ((60000 : Int) < (rl : Int)) = false := decide_eq_false (by omega)
              have hd66 : decide (60000 < rl) = false := decide_eq_false h6
              have hDr := HD.out.keep HBL.out
              have hcr : wr.cell? ⟨d, 0, none⟩ = some (.slice (some ⟨g, 0, none⟩) n n) := hDr.blk.cell 0
              have hck := hDr.cell k hkn
              have hfr := hDr.arr.frozen k
              have hk0 : (0 : Int) ≤ (k : Int) := by omega
              have hkn2 : (k : Int) < (n : Int) := by omega
              have HDR := Lib.hid hDr
              clear hDr
              go_wp2_with fail
              go_ret
              refine ⟨by rw [HCD2.out, if_neg h6]; rfl, ?_⟩
              rw [HLP.out, HCD2.out, if_neg h6, if_pos rfl]
              have hS : Fr (one g) wr (wr.setCell ⟨g, k, none⟩ (.slice A7 rl c7)) := (Fr.refl (one g) wr).setCell' (.inl rfl) _
              have hbs := HBL.out.size
              have hds := HD.out.bel.size
              refine ⟨vs.set k (.slice A7 rl c7), Dk.row_new HDR.out k hkn _ (recs want) (by rw [← HRLE.out]; exact HO7.out) (fun q hq => by have := HR.out q hq; omega) (fun q hq hf => by have := HR.out q hq; have := hfd.out q hf; omega), (Fr.of_below HBL.out _).then hS (fun j hj => .inl (by unfold one at hj; subst hj; exact .inr (.inl rfl))), fun i hi q hq => ?_⟩
              have hl1 := HD.out.n1
              by_cases e : i = k
              · subst e
                rw [show (vs.set i (.slice A7 rl c7)).getD i undef = .slice A7 rl c7 by simp [show i < vs.length by omega]] at hq
                exact .inr (HR.out q hq)
              · rw [show (vs.set k (.slice A7 rl c7)).getD i undef = vs.getD i undef by simp [List.getD_eq_getElem?_getD, List.getElem?_set, Ne.symm e]] at hq
                exact .inl (.inr (.inr ⟨i, hi, hq⟩))
end Go.Proofs.Ytnlkjhhocehhaaa
