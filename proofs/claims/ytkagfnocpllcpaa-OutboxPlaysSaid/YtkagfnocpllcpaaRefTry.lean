/- The document's box: Try. -/
import Derived.Test.YtkagfnocpllcpaaRefBox
namespace Go.Proofs.Ytkagfnocpllcpaa
set_option linter.unusedVariables false
open Go Go.RowKit Go.Proofs
def sliceLen : Value → Nat
  | .slice _ n _ => n
  | _ => 0
theorem zero54 (W : World) : (Instr.alloc 54 true (.tuple #[])).run Try.prog W = .ok (.pointer (some ⟨W.heap.size, 0, none⟩)) (W.alloc (.cells (entL default).toArray 54)) := by kernel_rfl
structure OutR (w W : World) (v : Value) (l : List E) : Prop where
  ents : EntsR W v l
  row : ∀ k, rowOf v k → w.heap.size ≤ k
theorem foldIns_mem : ∀ (l L : List E) (y : E), y ∈ l.foldl insL L → y ∈ l ∨ y ∈ L
  | [], L, y, h => .inr h
  | x :: l, L, y, h => by
    rw [List.foldl_cons] at h
    rcases foldIns_mem l (insL L x) y h with h | h
    · exact .inl (List.mem_cons_of_mem _ h)
    · rcases List.mem_cons.1 ((insL_perm L x).mem_iff.1 h) with rfl | h
      · exact .inl (List.mem_cons_self ..)
      · exact .inr h
theorem foldIns_len : ∀ (l L : List E), (l.foldl insL L).length = l.length + L.length
  | [], L => by simp
  | x :: l, L => by rw [List.foldl_cons, foldIns_len, length_insL, List.length_cons]; omega
/-- The box, and a row that the call owns: they do not meet. -/
theorem out_fr {w W W' : World} {b : Nat} {vo : Value} {l : List E} (hb : b < w.heap.size) (h : OutR w W vo l) (hF : Fr (one b) W W') : OutR w W' vo l :=
  ⟨Own.fr h.ents hF (fun k hk hk2 => by unfold one at hk; have := h.row k hk2; omega), h.row⟩
theorem outs_fr {w W W' : World} {b : Nat} {vo : Value} {l : List ByteArray} (hb : b < w.heap.size) (h : OutS w W vo l) (hF : Fr (one b) W W') : OutS w W' vo l :=
  ⟨Own.fr h.own hF (fun k hk hk2 => by unfold one at hk; have := h.row k hk2; omega), h.row⟩
def tryR (bn now : Int) (t s : List E) : List E × List ByteArray × Int × List E × Int :=
  if clockB bn now = false then ([], [], 9, t ++ s, bn) else (outL now t, goneL t, 0, (outL now t).foldl insL s, now)
set_option maxRecDepth 100000 in
set_option maxHeartbeats 8000000 in
theorem rtry_any (b : Nat) (v : Value) (t s : List E) (bn now : Int) (w : World) (h : BoxR w b v (t ++ s) bn) (hl : (t ++ s).length ≤ 5) (hbn : 0 ≤ bn) (ht : ∀ x ∈ t, 0 ≤ x.tries ∧ x.tries ≤ 6) (hd1 : ∀ x ∈ t, x.due ≤ now) (hd2 : ∀ x ∈ s, now < x.due) (hids : IdsOk (t ++ s)) :
    Calls Try.prog 35 #[rP b, .int .i64 now] w fun e w' => (∃ vo vg, e = .returned (.tuple #[vo, vg, .int .i64 (tryR bn now t s).2.2.1]) ∧ OutR w w' vo (tryR bn now t s).1 ∧ OutS w w' vg (tryR bn now t s).2.1) ∧ RTo b v (tryR bn now t s).2.2.2.2 w (tryR bn now t s).2.2.2.1 w' := by
  obtain ⟨i0, hi0, hz0, hz1, hz2⟩ := info_parts infoE54
  obtain ⟨i9, hi9, hy0, hy1, hy2⟩ := info_parts info9
  have H := Lib.hid h
  have hcb : w.cell? ⟨b, 1, none⟩ = some (.int .i64 bn) := h.blk.cell 1
  have hfz := h.blk.frozen 1
  have hbl : b < w.heap.size := h.blk.lt
  have HT := Lib.hid ht
  have HD1 := Lib.hid hd1
  have HD2 := Lib.hid hd2
  have HIDS := Lib.hid hids
  by_cases hc1 : now < bn
  · have hp : tryR bn now t s = ([], [], 9, t ++ s, bn) := by unfold tryR; rw [if_pos (by unfold clockB; simp; omega)]
    have HP := Lib.hid hp
    have hd : decide (now < bn) = true := decide_eq_true hc1
    clear hp h ht hd1 hd2 hids
    go_enter Try.func35, Try.ntmps35
    go_wp2_with fail
    go_ret3
    rw [HP.out]
    exact ⟨⟨_, _, rfl, ⟨EntsR.nil _, fun k hk => by cases hk⟩, ⟨Own.nil _ _ _, fun k hk => by cases hk⟩⟩, RTo.same H.out (Below.refl _ _)⟩
  · have hd : decide (now < bn) = false := decide_eq_false hc1
    by_cases hc2 : 1099511627776 < now
    · have hp : tryR bn now t s = ([], [], 9, t ++ s, bn) := by unfold tryR; rw [if_pos (by unfold clockB; simp; omega)]
      have HP := Lib.hid hp
      have hd3 : decide ((1099511627776 : Int) < now) = true := decide_eq_true hc2
      clear hp h ht hd1 hd2 hids
      go_enter Try.func35, Try.ntmps35
      go_wp2_with fail
      go_ret3
      rw [HP.out]
      exact ⟨⟨_, _, rfl, ⟨EntsR.nil _, fun k hk => by cases hk⟩, ⟨Own.nil _ _ _, fun k hk => by cases hk⟩⟩, RTo.same H.out (Below.refl _ _)⟩
    · have hd3 : decide ((1099511627776 : Int) < now) = false := decide_eq_false hc2
      have hp : tryR bn now t s = (outL now t, goneL t, 0, (outL now t).foldl insL s, now) := by unfold tryR; rw [if_neg (by unfold clockB; simp; omega)]
      have HP := Lib.hid hp
      have hX := h.setNow now
      have HX := Lib.hid hX
      have HF0 := Lib.hid ((Fr.refl (one b) w).setCell' (g := b) (o := 1) (s := none) (.inl rfl) (.int .i64 now))
      have hn0 : 0 ≤ now := by omega
      have hn1 : now ≤ 1099511627776 := by omega
      have hlts : t.length + s.length ≤ 5 := by rw [List.length_append] at hl; exact hl
      clear hp h ht hd1 hd2 hids hX hl
      go_enter Try.func35, Try.ntmps35
      go_wp2_with fail
      have hw1s : (w.setCell ⟨b, 1, none⟩ (.int .i64 now)).heap.size = w.heap.size := by simp [World.setCell]
      obtain ⟨w1, hw1⟩ : ∃ w1, w1 = w.setCell ⟨b, 1, none⟩ (.int .i64 now) := ⟨_, rfl⟩
      rw [← hw1] at HX HF0 hw1s ⊢
      have HS1 := Lib.hid hw1s
      clear hw1 hcb hfz hw1s
      go_loopw [7] (fun c7 wr => ∃ (k : Nat) (vr : Value), k ≤ t.length ∧ OutR w wr c7 (t.take k) ∧ BoxR wr b vr (t.drop k ++ s) now ∧ Fr (one b) w wr ∧ (∀ j, rowOf vr j → rowOf v j ∨ w.heap.size ≤ j) ∧ (∀ j, rowOf c7 j → ¬ rowOf vr j)) (fun c7 _ => t.length - sliceLen c7)
      case atStart => exact ⟨0, v, by omega, ⟨EntsR.nil _, fun k hk => by cases hk⟩, HX.out, HF0.out, fun j hj => .inl hj, fun j hj => by cases hj⟩
      case round =>
        obtain ⟨k, vr, hk, hO, hX, hF, hR, hDj⟩ := hrel
        have HDJ := Lib.hid hDj
        have HO := Lib.hid hO
        have HXr := Lib.hid hX
        have HFr := Lib.hid hF
        have HRr := Lib.hid hR
        have hc0 : wr.cell? ⟨b, 0, none⟩ = some vr := hX.blk.cell 0
        have hbr : b < wr.heap.size := hX.blk.lt
        obtain ⟨Ar, cr, hvr, -, -⟩ := hX.ents.shape
        obtain ⟨n, hn⟩ : ∃ n, n = (t.drop k ++ s).length := ⟨_, rfl⟩
        rw [← hn] at hvr
        have hn' : n = t.length - k + s.length := by rw [hn, List.length_append, List.length_drop]
        have HN := Lib.hid hn
        have HN' := Lib.hid hn'
        subst hvr
        clear hO hX hF hR hn hn' hDj
        by_cases hkt : k < t.length
        · obtain ⟨g, o, cp, hv, -, hg, hr⟩ := HXr.out.ents.at_ 0 (by rw [← HN.out]; have := HN'.out; omega)
          simp only [Value.slice.injEq] at hv
          obtain ⟨rfl, -, rfl⟩ := hv
          have e0 : (t.drop k ++ s).getD 0 default = t.getD k default := by
            simp only [List.getD_eq_getElem?_getD]
            rw [List.getElem?_append_left (by rw [List.length_drop]; omega), List.getElem?_drop, Nat.add_zero]
          rw [e0, Nat.zero_mul, Nat.add_zero] at hr
          have hn0' : 0 < n := by have := HN'.out; omega
          have hd5 : decide ((0 : Int) < (n : Int)) = true := decide_eq_true (by omega)
          have hdue := HD1.out (t.getD k default) (by simp [hkt])
          have hts := take_snoc t k hkt
          have hlt : (t.take k).length = k := by rw [List.length_take]; omega
          have hdr : cutL (t.drop k ++ s) 0 = t.drop (k + 1) ++ s := by
            unfold cutL
            rw [List.take_zero, List.nil_append, List.drop_append, List.drop_drop, List.length_drop, show 0 + 1 - (t.length - k) = 0 by omega, List.drop_zero]
          obtain ⟨x, hx⟩ : ∃ x, x = t.getD k default := ⟨_, rfl⟩
          rw [← hx] at hr hdue hts
          have hd6 : decide (x.due ≤ now) = true := decide_eq_true hdue
          have hcd : wr.cell? ⟨g, o + 2, none⟩ = some (.int .i64 x.due) := hr 2 _ rfl
          have HRx := Lib.hid hr
          have HTS := Lib.hid hts
          have HDR := Lib.hid hdr
          obtain ⟨tk, htk⟩ : ∃ tk, tk = t.take k := ⟨_, rfl⟩
          rw [← htk] at HO hlt HTS
          have hB4 : Below wr.heap.size wr (wr.alloc (.cells (entL x).toArray 54)) := (Below.refl _ wr).alloc (Nat.le_refl _) _
          have hO4 : EntsR (wr.alloc (.cells (entL x).toArray 54)) u7 tk := HO.out.ents.keep hB4
          have hS4 : Src (wr.alloc (.cells (entL x).toArray 54)) 5 (some ⟨wr.heap.size, 0, none⟩) 1 (entL x) := Src.of_new wr 54 (entL x).toArray 5 rfl
          have HB4 := Lib.hid hB4
          have HO4 := Lib.hid hO4
          have HS4 := Lib.hid hS4
          have htk5 : tk.length ≤ 5 := by omega
          have HSL : Hid (sliceLen u7 = k) := Lib.hid (by
            obtain ⟨A7, c7, h7, -, -⟩ := hO4.shape
            rw [h7]
            exact hlt)
          have HLT := Lib.hid hlt
          clear e0 hr hx hts hdr htk hB4 hO4 hS4 hdue hlt
          go_wp2_with (first
            | (with_reducible refine wpList_load_mid rfl 54 (.tmp 48) rfl g o (by with_unfolding_all rfl) (entL x) _ HRx.out Try.underlying54 rfl (info54 x) ?_)
            | (with_reducible refine wpList_run _ _ rfl (exec_bs41 x wr _ _ 49 rfl (by with_unfolding_all rfl)) ?_)
            | (at_builtin
               refine wpList_append_o _ rfl (.tmp 43) (.tmp 50) 41 rfl 54 i0 (.agg (entL default).toArray) 5 56 Try.underlying41 hi0 hz0 hz1 hz2 (by rfl) (by omega) u7 tk.length (qC tk) (by rfl) HO4.out (some ⟨wr.heap.size, 0, none⟩) 1 1 (entL x) (by rfl) HS4.out (entL_one _) (by simp only [maxLen]; omega) (by omega) ?_
               intro v5 w5 hown5 hf5 hr5
               simp only [Act.put, List.setIfInBounds_toArray, List.set_cons_zero, List.set_cons_succ]
               have s4 := HB4.out.size
               have s0 := HFr.out.size
               have hf5' : Fr (rowOf u7) wr w5 := (Fr.of_below HB4.out _).trans hf5
               have hnb : ¬ rowOf u7 b := fun hj => by have := HO.out.row b hj; omega
               have hO5 : OutR w w5 v5 (tk ++ [x]) := ⟨EntsR.snoc hown5, fun j hj => (hr5 j hj).elim (HO.out.row j) (fun h => by omega)⟩
               have hnr : ∀ j, rowOf u7 j → ¬ rowOf (.slice (some ⟨g, o, none⟩) n cr) j := HDJ.out
               have hX5 : BoxR w5 b (.slice (some ⟨g, o, none⟩) n cr) (t.drop k ++ s) now := ⟨HXr.out.blk.fr hf5' hnb, Own.fr HXr.out.ents hf5' hnr⟩
               have hF5 : Fr (one b) w w5 := HFr.out.then hf5' (fun j hj => .inr (HO.out.row j hj))
               have hlen5 : (tk ++ [x]).length = k + 1 := by rw [List.length_append, HLT.out]; rfl
               obtain ⟨A5, c5, hv5, -, -⟩ := hO5.ents.shape
               rw [hlen5] at hv5
               subst hv5
               have HCUT := Lib.hid (cut_any b _ (t.drop k ++ s) now 0 w5 hX5 (by rw [← HN.out]; have := HN'.out; omega) (by rw [← HN.out]; exact hn0'))
               have HO5 := Lib.hid hO5
               have HF5 := Lib.hid hF5
               have HD5 : Hid (∀ j, rowOf (.slice A5 (k + 1) c5) j → ¬ rowOf (.slice (some ⟨g, o, none⟩) n cr) j) := Lib.hid (fun j hj hj2 => (hr5 j hj).elim (fun h => hnr j h hj2) (fun h => by
                 have := Own.lt HXr.out.ents hj2
                 have := HB4.out.size
                 omega))
               clear hown5 hf5 hr5 s4 s0 hf5' hnb hnr hX5 hF5 hO5 hlen5)
            | (go_at_call 49
               refine HCUT.out.mono ?_
               rintro en w6 ⟨rfl, hT⟩)
            | fail)
          go_roundw
          case rel =>
            obtain ⟨v6, hX6, hF6, hR6⟩ := hT
            refine ⟨k + 1, v6, by omega, ?_, by rw [← HDR.out]; exact hX6, HF5.out.trans hF6, fun j hj => (hR6 j hj).elim (HRr.out j) (fun h => .inr (Nat.le_trans HF5.out.size h)), fun j hj hj2 => (hR6 j hj2).elim (HD5.out j hj) (fun h => ?_)⟩
            · rw [HTS.out]
              exact out_fr hbl HO5.out hF6
            · have := Own.lt HO5.out.ents hj
              omega
          case measure =>
            have := HSL.out
            simp only [List.getD_eq_getElem?_getD, sliceLen] at this ⊢
            show t.length - (k + 1) < t.length - sliceLen u7
            rw [HSL.out]
            omega
        · obtain rfl : k = t.length := by omega
          rw [List.take_length] at HO
          rw [List.drop_length, List.nil_append] at HXr HN
          have hcase : (n = 0) ∨ (0 < n ∧ ∃ (g o : Nat) (y : E), Ar = some ⟨g, o, none⟩ ∧ wr.cell? ⟨g, o + 2, none⟩ = some (.int .i64 y.due) ∧ now < y.due) := by
            rcases Nat.eq_zero_or_pos n with h0 | h0
            · exact .inl h0
            · obtain ⟨g, o, cp, hv, -, hg, hr⟩ := HXr.out.ents.at_ 0 (by rw [← HN.out]; exact h0)
              simp only [Value.slice.injEq] at hv
              obtain ⟨rfl, -, -⟩ := hv
              refine .inr ⟨h0, g, o, s.getD 0 default, rfl, ?_, HD2.out _ (by have := HN.out; simp [show 0 < s.length by omega])⟩
              have := hr 2 (.int .i64 (s.getD 0 default).due) rfl
              rw [Nat.zero_mul, Nat.add_zero] at this
              exact this
          have hslen : n = s.length := HN.out
          have HSN := Lib.hid hslen
          obtain ⟨A7, c7, hv7, hc71, hc72⟩ := HO.out.ents.shape
          subst hv7
          have htl5 : t.length ≤ 5 := by omega
          clear hslen
          obtain ⟨W2, rfl⟩ : ∃ W2 : World, W2 = wr := ⟨_, rfl⟩
          rcases hcase with hn00 | ⟨hn00, gh, oh, yh, rfl, hch, hdh⟩
          · subst hn00
            have hd5 : decide ((0 : Int) < ((0 : Nat) : Int)) = false := by decide
            as_aux_lemma =>
              go_wp2_with fail
              go_loopw [8, 9, 10] (fun c8 c9 c10 wr => ∃ (i : Nat) (vr : Value), i ≤ t.length ∧ c10 = .int .i64 (i : Int) ∧ OutR W2 wr c8 (outL now (t.take i)) ∧ OutS W2 wr c9 (goneL (t.take i)) ∧ BoxR wr b vr ((outL now (t.take i)).foldl insL s) now ∧ Fr (one b) W2 wr ∧ (∀ j, rowOf vr j → rowOf v j ∨ w.heap.size ≤ j) ∧ (∀ j, rowOf c8 j → ¬ rowOf vr j)) (fun _ _ c10 _ => t.length - (intOf c10).toNat)
              case atStart => exact ⟨0, _, by omega, rfl, ⟨EntsR.nil _, fun j hj => by cases hj⟩, ⟨Own.nil _ _ _, fun j hj => by cases hj⟩, HXr.out, Fr.refl _ _, HRr.out, fun j hj => by cases hj⟩
              case round =>
                obtain ⟨i, vr, hi, rfl, hE, hS, hX, hF, hR, hDj⟩ := hrel
                have HE := Lib.hid hE
                have HS := Lib.hid hS
                have HXX := Lib.hid hX
                have HFF := Lib.hid hF
                have HRR := Lib.hid hR
                have HDD := Lib.hid hDj
                have hU := out_fr hbl HO.out hF
                have HU := Lib.hid hU
                clear hE hS hX hF hR hDj hU
                by_cases hil : i < t.length
                · have hdk : decide ((i : Int) < (t.length : Int)) = true := decide_eq_true (by omega)
                  obtain ⟨g, o, cp, hv, -, hg, hr⟩ := HU.out.ents.at_ i hil
                  simp only [Value.slice.injEq] at hv
                  obtain ⟨rfl, -, rfl⟩ := hv
                  have hmem : t.getD i default ∈ t := by simp [hil]
                  obtain ⟨ht0, ht6⟩ := HT.out _ hmem
                  have hidx := HIDS.out (t.getD i default) (List.mem_append.2 (.inl hmem))
                  have hyes := outL_yes now t i hil
                  have hno := outL_no now t i hil
                  have hlo := outL_len now (t.take i)
                  have hlg := goneL_len (t.take i)
                  have hlt : (t.take i).length ≤ 5 := by rw [List.length_take]; omega
                  have hlt2 : (t.take i).length ≤ t.length := by rw [List.length_take]; omega
                  have hmm : ∀ z ∈ (outL now (t.take i)).foldl insL s, z.id.size ≤ 100 := fun z hz => by
                    rcases foldIns_mem _ _ z hz with h9 | h9
                    · obtain ⟨q, hq, _, rfl⟩ := outL_mem now _ z h9
                      exact HIDS.out q (List.mem_append.2 (.inl (List.mem_of_mem_take hq)))
                    · exact HIDS.out z (List.mem_append.2 (.inr h9))
                  have hml : ((outL now (t.take i)).foldl insL s).length ≤ 10 := by rw [foldIns_len]; omega
                  obtain ⟨x, hx⟩ : ∃ x, x = t.getD i default := ⟨_, rfl⟩
                  rw [← hx] at hr ht0 ht6 hyes hno hidx
                  obtain ⟨lo, hlo'⟩ : ∃ lo, lo = outL now (t.take i) := ⟨_, rfl⟩
                  obtain ⟨lg, hlg'⟩ : ∃ lg, lg = goneL (t.take i) := ⟨_, rfl⟩
                  rw [← hlo'] at HE hyes hno hlo HXX hmm hml
                  rw [← hlg'] at HS hyes hno hlg
                  have HRX := Lib.hid hr
                  have HY := Lib.hid hyes
                  have HNo := Lib.hid hno
                  have HMM := Lib.hid hmm
                  have hlo5 : lo.length ≤ 5 := by omega
                  have hlg5 : lg.length ≤ 5 := by omega
                  clear hx hr hyes hno hlo' hlg' hmem hlo hlg hlt hmm hlt2
                  obtain ⟨W, hW⟩ : ∃ W, W = waitI (x.tries + 1) := ⟨_, rfl⟩
                  have hWb := waitI_bd (x.tries + 1)
                  have HWt := Lib.hid (fun w => rwait_any (x.tries + 1) w)
                  rw [← hW] at hWb HWt
                  obtain ⟨hW1, hW2⟩ := hWb
                  have HW := Lib.hid hW
                  clear hW
                  by_cases h6 : x.tries = 6
                  · have hq6 : decide ((6 : Int) ≤ x.tries) = true := decide_eq_true (by omega)
                    obtain ⟨ho, hgn⟩ := HY.out h6
                    have HOo := Lib.hid ho
                    have HGn := Lib.hid hgn
                    clear ho hgn h6
                    go_wp2_with (first
                      | (with_reducible refine wpList_load_mid rfl 54 (.tmp 62) rfl g (o + i * 5) (by with_unfolding_all rfl) (entL x) _ HRX.out Try.underlying54 rfl (info54 x) ?_)
                      | (with_reducible refine wpList_alloc_run rfl 54 rfl (entL default).toArray zero54 ?_)
                      | (refine wpList_store_blk rfl 54 (.tmp 11) (.tmp 63) rfl wr.heap.size 54 (entL default).toArray (entL x).toArray (by rfl) (by rfl) (Blk.new wr 54 _) rfl (info54 _) (one_ent _) ?_
                         intro w2 hb2 hf2
                         have hF2 : Fr nob wr w2 := ((Fr.refl nob wr).alloc _).then hf2 (fun i hi => Or.inr (by unfold one at hi; omega))
                         have hc3 : w2.cell? ⟨wr.heap.size, 3, none⟩ = some (.int .i64 x.tries) := hb2.cell 3
                         have hc0 : w2.cell? ⟨wr.heap.size, 0, none⟩ = some (.string x.id) := hb2.cell 0
                         have hO4 : Own (w2.alloc (.cells #[.string x.id] 9)) 9 1 u9 lg.length (lg.map Value.string) := (HS.out.own.fr hF2 (fun _ h => h.elim)).fr ((Fr.refl nob w2).alloc _) (fun _ h => h.elim)
                         have hS4 : Src (w2.alloc (.cells #[.string x.id] 9)) 1 (some ⟨w2.heap.size, 0, none⟩) 1 [.string x.id] := Src.of_new w2 9 #[.string x.id] 1 rfl
                         have HO4 := Lib.hid hO4
                         have HS4 := Lib.hid hS4
                         have HF2 := Lib.hid hF2
                         clear hb2 hf2 hF2 hO4 hS4)
                      | (at_builtin
                         refine wpList_append_o _ rfl (.tmp 67) (.tmp 70) 27 rfl 9 i9 (.string ⟨#[]⟩) 1 16 Try.underlying27 hi9 hy0 hy1 hy2 (by rfl) (by omega) u9 lg.length (lg.map Value.string) (by rfl) HO4.out (some ⟨w2.heap.size, 0, none⟩) 1 1 [.string x.id] (by rfl) HS4.out (by simp [Value.oneCell']) (by simp only [maxLen]; omega) (by omega) ?_
                         intro v5 w5 hown5 hf5 hr5
                         simp only [Act.put, List.setIfInBounds_toArray, List.set_cons_zero, List.set_cons_succ])
                      | fail)
                    go_roundw
                    case rel =>
                      have s2 := HF2.out.size
                      have s4 := HFF.out.size
                      have hF5 : Fr (rowOf u9) wr w5 := ((HF2.out.alloc _).mono (fun _ _ h => h.elim)).trans hf5
                      refine ⟨i + 1, vr, by omega, by go_num, ?_, ?_, ?_, HFF.out.then hF5 (fun j hj => .inr (HS.out.row j hj)), HRR.out, HDD.out⟩
                      · rw [HOo.out]
                        exact ⟨Own.fr HE.out.ents hF5 (fun j hj hj2 => own_disj HE.out.ents HS.out.own (by decide) j hj2 hj), HE.out.row⟩
                      · rw [HGn.out]
                        exact ⟨by rw [List.map_append, List.length_append]; exact hown5, fun j hj => (hr5 j hj).elim (HS.out.row j) (fun h => by rw [World.size_alloc] at h; omega)⟩
                      · rw [HOo.out]
                        exact ⟨HXX.out.blk.fr hF5 (Own.blk_ne HS.out.own HXX.out.blk (by decide)), Own.fr HXX.out.ents hF5 (fun j hj hj2 => own_disj HXX.out.ents HS.out.own (by decide) j hj2 hj)⟩
                    case measure => simp [intOf]; omega
                  · have hq6 : decide ((6 : Int) ≤ x.tries) = false := decide_eq_false (by omega)
                    obtain ⟨ho, hgn⟩ := HNo.out h6
                    have HOo := Lib.hid ho
                    have HGn := Lib.hid hgn
                    clear ho hgn
                    go_wp2_with (first
                      | (with_reducible refine wpList_load_mid rfl 54 (.tmp 62) rfl g (o + i * 5) (by with_unfolding_all rfl) (entL x) _ HRX.out Try.underlying54 rfl (info54 x) ?_)
                      | (with_reducible refine wpList_alloc_run rfl 54 rfl (entL default).toArray zero54 ?_)
                      | (refine wpList_store_blk rfl 54 (.tmp 11) (.tmp 63) rfl wr.heap.size 54 (entL default).toArray (entL x).toArray (by rfl) (by rfl) (Blk.new wr 54 _) rfl (info54 _) (one_ent _) ?_
                         intro w2 hb2 hf2
                         have hF2 : Fr nob wr w2 := ((Fr.refl nob wr).alloc _).then hf2 (fun i hi => Or.inr (by unfold one at hi; omega))
                         have hc3 : w2.cell? ⟨wr.heap.size, 3, none⟩ = some (.int .i64 x.tries) := hb2.cell 3
                         have hc2 : w2.cell? ⟨wr.heap.size, 2, none⟩ = some (.int .i64 x.due) := hb2.cell 2
                         have hf3 := hb2.frozen 3
                         have hf22 := hb2.frozen 2
                         have hlen2 := hb2.lt
                         have HF2 := Lib.hid hF2
                         have HB4 : Hid (Blk ((w2.setCell ⟨wr.heap.size, 3, none⟩ (.int .i64 (x.tries + 1))).setCell ⟨wr.heap.size, 2, none⟩ (.int .i64 (now + W))) wr.heap.size 54 (entL (stepT now x)).toArray) := Lib.hid (by rw [← step_cells now W x HW.out]; exact (hb2.set_ 3 _).set_ 2 _)
                         clear hb2 hf2 hF2)
                      | (go_at_call 24
                         refine (HWt.out _).mono ?_
                         rintro en w3 ⟨rfl, rfl⟩)
                      | (with_reducible refine wpList_load_blk rfl 54 (.tmp 11) rfl wr.heap.size 54 (entL (stepT now x)).toArray _ (by with_unfolding_all rfl) HB4.out Try.underlying54 rfl (info54 _) ?_
                         obtain ⟨w4, hw4⟩ : ∃ w4, w4 = (w2.setCell ⟨wr.heap.size, 3, none⟩ (.int .i64 (x.tries + 1))).setCell ⟨wr.heap.size, 2, none⟩ (.int .i64 (now + W)) := ⟨_, rfl⟩
                         have hF4 : Fr nob wr w4 := by
                           rw [hw4]
                           exact ((HF2.out.setCell' (.inr (Nat.le_refl _)) _).setCell' (.inr (Nat.le_refl _)) _)
                         have hb4 := HB4.out
                         rw [← hw4] at hb4
                         rw [← hw4]
                         have hO4 : EntsR (w4.alloc (.cells (entL (stepT now x)).toArray 54)) u8 lo := Own.fr (Own.fr HE.out.ents hF4 (fun _ h => h.elim)) ((Fr.refl nob w4).alloc _) (fun _ h => h.elim)
                         have hS4 : Src (w4.alloc (.cells (entL (stepT now x)).toArray 54)) 5 (some ⟨w4.heap.size, 0, none⟩) 1 (entL (stepT now x)) := Src.of_new w4 54 (entL (stepT now x)).toArray 5 rfl
                         have HO4 := Lib.hid hO4
                         have HS4 := Lib.hid hS4
                         have HF4 := Lib.hid hF4
                         have HB44 := Lib.hid (hb4.alloc (.cells (entL (stepT now x)).toArray 54))
                         clear hO4 hS4 hF4 hw4 hb4 HB4)
                      | (with_reducible refine wpList_run _ _ rfl (exec_bs41 (stepT now x) w4 _ _ 83 rfl (by with_unfolding_all rfl)) ?_)
                      | (at_builtin
                         refine wpList_append_o _ rfl (.tmp 82) (.tmp 84) 41 rfl 54 i0 (.agg (entL default).toArray) 5 56 Try.underlying41 hi0 hz0 hz1 hz2 (by rfl) (by omega) u8 lo.length (qC lo) (by rfl) HO4.out (some ⟨w4.heap.size, 0, none⟩) 1 1 (entL (stepT now x)) (by rfl) HS4.out (entL_one _) (by simp only [maxLen]; omega) (by omega) ?_
                         intro v5 w5 hown5 hf5 hr5
                         simp only [Act.put, List.setIfInBounds_toArray, List.set_cons_zero, List.set_cons_succ]
                         have s2 := HF4.out.size
                         have s4 := HFF.out.size
                         have hF5 : Fr (rowOf u8) wr w5 := ((HF4.out.alloc _).mono (fun _ _ h => h.elim)).trans hf5
                         have hO5 : OutR W2 w5 v5 (lo ++ [stepT now x]) := ⟨EntsR.snoc hown5, fun j hj => (hr5 j hj).elim (HE.out.row j) (fun h => by rw [World.size_alloc] at h; omega)⟩
                         have hX5 : BoxR w5 b vr (lo.foldl insL s) now := ⟨HXX.out.blk.fr hF5 (fun hj => by have := HE.out.row b hj; have := HFr.out.size; omega), Own.fr HXX.out.ents hF5 (fun j hj => HDD.out j hj)⟩
                         have hG5 : OutS W2 w5 u9 lg := ⟨Own.fr HS.out.own hF5 (fun j hj hj2 => own_disj HE.out.ents HS.out.own (by decide) j hj hj2), HS.out.row⟩
                         have HB5 := Lib.hid (HB44.out.fr hf5 (fun hj => by have := Own.lt HE.out.ents hj; omega))
                         have HI5 := Lib.hid (insert_any b vr _ now (stepT now x) w5 hX5 hml hidx HMM.out)
                         have HD5 : Hid (∀ j, rowOf v5 j → ¬ rowOf vr j) := Lib.hid (fun j hj hj2 => (hr5 j hj).elim (fun h => HDD.out j h hj2) (fun h => by
                           have := Own.lt HXX.out.ents hj2
                           rw [World.size_alloc] at h
                           omega))
                         have HO5 := Lib.hid hO5
                         have HG5 := Lib.hid hG5
                         have HF5 := Lib.hid hF5
                         clear hown5 hf5 hr5 s2 s4 hF5 hO5 hX5 hG5)
                      | (with_reducible refine wpList_load_blk rfl 54 (.tmp 11) rfl wr.heap.size 54 (entL (stepT now x)).toArray _ (by with_unfolding_all rfl) HB5.out Try.underlying54 rfl (info54 _) ?_)
                      | (go_at_call 48
                         refine HI5.out.mono ?_
                         rintro en w6 ⟨rfl, hT⟩)
                      | fail)
                    go_roundw
                    case rel =>
                      obtain ⟨v6, hX6, hF6, hR6⟩ := hT
                      have s4 := HFF.out.size
                      have s5 := HF5.out.size
                      have s1 := HFr.out.size
                      have hbl2 : b < W2.heap.size := by omega
                      refine ⟨i + 1, v6, by omega, by go_num, ?_, ?_, ?_, (HFF.out.then HF5.out (fun j hj => .inr (HE.out.row j hj))).trans hF6, fun j hj => (hR6 j hj).elim (HRR.out j) (fun h => .inr (by omega)), fun j hj hj2 => (hR6 j hj2).elim (HD5.out j hj) (fun h => by have := Own.lt HO5.out.ents hj; omega)⟩
                      · rw [HOo.out]
                        exact out_fr hbl2 HO5.out hF6
                      · rw [HGn.out]
                        exact outs_fr hbl2 HG5.out hF6
                      · rw [HOo.out, List.foldl_append]
                        exact hX6
                    case measure => simp [intOf]; omega
                · obtain rfl : i = t.length := by omega
                  have hdk : decide ((t.length : Int) < (t.length : Int)) = false := decide_eq_false (by omega)
                  rw [List.take_length] at HE HS HXX
                  go_wp2_with fail
                  go_ret3
                  rw [HP.out]
                  have s1 := HFr.out.size
                  exact ⟨⟨_, _, rfl, ⟨HE.out.ents, fun j hj => by have := HE.out.row j hj; omega⟩, ⟨HS.out.own, fun j hj => by have := HS.out.row j hj; omega⟩⟩, vr, HXX.out, HFr.out.trans HFF.out, HRR.out⟩
          · have hd5 : decide ((0 : Int) < (n : Int)) = true := decide_eq_true (by omega)
            have hd55 : decide (0 < n) = true := decide_eq_true hn00
            have hd6 : decide (yh.due ≤ now) = false := decide_eq_false (by omega)
            as_aux_lemma =>
              go_wp2_with fail
              go_loopw [8, 9, 10] (fun c8 c9 c10 wr => ∃ (i : Nat) (vr : Value), i ≤ t.length ∧ c10 = .int .i64 (i : Int) ∧ OutR W2 wr c8 (outL now (t.take i)) ∧ OutS W2 wr c9 (goneL (t.take i)) ∧ BoxR wr b vr ((outL now (t.take i)).foldl insL s) now ∧ Fr (one b) W2 wr ∧ (∀ j, rowOf vr j → rowOf v j ∨ w.heap.size ≤ j) ∧ (∀ j, rowOf c8 j → ¬ rowOf vr j)) (fun _ _ c10 _ => t.length - (intOf c10).toNat)
              case atStart => exact ⟨0, _, by omega, rfl, ⟨EntsR.nil _, fun j hj => by cases hj⟩, ⟨Own.nil _ _ _, fun j hj => by cases hj⟩, HXr.out, Fr.refl _ _, HRr.out, fun j hj => by cases hj⟩
              case round =>
                obtain ⟨i, vr, hi, rfl, hE, hS, hX, hF, hR, hDj⟩ := hrel
                have HE := Lib.hid hE
                have HS := Lib.hid hS
                have HXX := Lib.hid hX
                have HFF := Lib.hid hF
                have HRR := Lib.hid hR
                have HDD := Lib.hid hDj
                have hU := out_fr hbl HO.out hF
                have HU := Lib.hid hU
                clear hE hS hX hF hR hDj hU
                by_cases hil : i < t.length
                · have hdk : decide ((i : Int) < (t.length : Int)) = true := decide_eq_true (by omega)
                  obtain ⟨g, o, cp, hv, -, hg, hr⟩ := HU.out.ents.at_ i hil
                  simp only [Value.slice.injEq] at hv
                  obtain ⟨rfl, -, rfl⟩ := hv
                  have hmem : t.getD i default ∈ t := by simp [hil]
                  obtain ⟨ht0, ht6⟩ := HT.out _ hmem
                  have hidx := HIDS.out (t.getD i default) (List.mem_append.2 (.inl hmem))
                  have hyes := outL_yes now t i hil
                  have hno := outL_no now t i hil
                  have hlo := outL_len now (t.take i)
                  have hlg := goneL_len (t.take i)
                  have hlt : (t.take i).length ≤ 5 := by rw [List.length_take]; omega
                  have hlt2 : (t.take i).length ≤ t.length := by rw [List.length_take]; omega
                  have hmm : ∀ z ∈ (outL now (t.take i)).foldl insL s, z.id.size ≤ 100 := fun z hz => by
                    rcases foldIns_mem _ _ z hz with h9 | h9
                    · obtain ⟨q, hq, _, rfl⟩ := outL_mem now _ z h9
                      exact HIDS.out q (List.mem_append.2 (.inl (List.mem_of_mem_take hq)))
                    · exact HIDS.out z (List.mem_append.2 (.inr h9))
                  have hml : ((outL now (t.take i)).foldl insL s).length ≤ 10 := by rw [foldIns_len]; omega
                  obtain ⟨x, hx⟩ : ∃ x, x = t.getD i default := ⟨_, rfl⟩
                  rw [← hx] at hr ht0 ht6 hyes hno hidx
                  obtain ⟨lo, hlo'⟩ : ∃ lo, lo = outL now (t.take i) := ⟨_, rfl⟩
                  obtain ⟨lg, hlg'⟩ : ∃ lg, lg = goneL (t.take i) := ⟨_, rfl⟩
                  rw [← hlo'] at HE hyes hno hlo HXX hmm hml
                  rw [← hlg'] at HS hyes hno hlg
                  have HRX := Lib.hid hr
                  have HY := Lib.hid hyes
                  have HNo := Lib.hid hno
                  have HMM := Lib.hid hmm
                  have hlo5 : lo.length ≤ 5 := by omega
                  have hlg5 : lg.length ≤ 5 := by omega
                  clear hx hr hyes hno hlo' hlg' hmem hlo hlg hlt hmm hlt2
                  obtain ⟨W, hW⟩ : ∃ W, W = waitI (x.tries + 1) := ⟨_, rfl⟩
                  have hWb := waitI_bd (x.tries + 1)
                  have HWt := Lib.hid (fun w => rwait_any (x.tries + 1) w)
                  rw [← hW] at hWb HWt
                  obtain ⟨hW1, hW2⟩ := hWb
                  have HW := Lib.hid hW
                  clear hW
                  by_cases h6 : x.tries = 6
                  · have hq6 : decide ((6 : Int) ≤ x.tries) = true := decide_eq_true (by omega)
                    obtain ⟨ho, hgn⟩ := HY.out h6
                    have HOo := Lib.hid ho
                    have HGn := Lib.hid hgn
                    clear ho hgn h6
                    go_wp2_with (first
                      | (with_reducible refine wpList_load_mid rfl 54 (.tmp 62) rfl g (o + i * 5) (by with_unfolding_all rfl) (entL x) _ HRX.out Try.underlying54 rfl (info54 x) ?_)
                      | (with_reducible refine wpList_alloc_run rfl 54 rfl (entL default).toArray zero54 ?_)
                      | (refine wpList_store_blk rfl 54 (.tmp 11) (.tmp 63) rfl wr.heap.size 54 (entL default).toArray (entL x).toArray (by rfl) (by rfl) (Blk.new wr 54 _) rfl (info54 _) (one_ent _) ?_
                         intro w2 hb2 hf2
                         have hF2 : Fr nob wr w2 := ((Fr.refl nob wr).alloc _).then hf2 (fun i hi => Or.inr (by unfold one at hi; omega))
                         have hc3 : w2.cell? ⟨wr.heap.size, 3, none⟩ = some (.int .i64 x.tries) := hb2.cell 3
                         have hc0 : w2.cell? ⟨wr.heap.size, 0, none⟩ = some (.string x.id) := hb2.cell 0
                         have hO4 : Own (w2.alloc (.cells #[.string x.id] 9)) 9 1 u9 lg.length (lg.map Value.string) := (HS.out.own.fr hF2 (fun _ h => h.elim)).fr ((Fr.refl nob w2).alloc _) (fun _ h => h.elim)
                         have hS4 : Src (w2.alloc (.cells #[.string x.id] 9)) 1 (some ⟨w2.heap.size, 0, none⟩) 1 [.string x.id] := Src.of_new w2 9 #[.string x.id] 1 rfl
                         have HO4 := Lib.hid hO4
                         have HS4 := Lib.hid hS4
                         have HF2 := Lib.hid hF2
                         clear hb2 hf2 hF2 hO4 hS4)
                      | (at_builtin
                         refine wpList_append_o _ rfl (.tmp 67) (.tmp 70) 27 rfl 9 i9 (.string ⟨#[]⟩) 1 16 Try.underlying27 hi9 hy0 hy1 hy2 (by rfl) (by omega) u9 lg.length (lg.map Value.string) (by rfl) HO4.out (some ⟨w2.heap.size, 0, none⟩) 1 1 [.string x.id] (by rfl) HS4.out (by simp [Value.oneCell']) (by simp only [maxLen]; omega) (by omega) ?_
                         intro v5 w5 hown5 hf5 hr5
                         simp only [Act.put, List.setIfInBounds_toArray, List.set_cons_zero, List.set_cons_succ])
                      | fail)
                    go_roundw
                    case rel =>
                      have s2 := HF2.out.size
                      have s4 := HFF.out.size
                      have hF5 : Fr (rowOf u9) wr w5 := ((HF2.out.alloc _).mono (fun _ _ h => h.elim)).trans hf5
                      refine ⟨i + 1, vr, by omega, by go_num, ?_, ?_, ?_, HFF.out.then hF5 (fun j hj => .inr (HS.out.row j hj)), HRR.out, HDD.out⟩
                      · rw [HOo.out]
                        exact ⟨Own.fr HE.out.ents hF5 (fun j hj hj2 => own_disj HE.out.ents HS.out.own (by decide) j hj2 hj), HE.out.row⟩
                      · rw [HGn.out]
                        exact ⟨by rw [List.map_append, List.length_append]; exact hown5, fun j hj => (hr5 j hj).elim (HS.out.row j) (fun h => by rw [World.size_alloc] at h; omega)⟩
                      · rw [HOo.out]
                        exact ⟨HXX.out.blk.fr hF5 (Own.blk_ne HS.out.own HXX.out.blk (by decide)), Own.fr HXX.out.ents hF5 (fun j hj hj2 => own_disj HXX.out.ents HS.out.own (by decide) j hj2 hj)⟩
                    case measure => simp [intOf]; omega
                  · have hq6 : decide ((6 : Int) ≤ x.tries) = false := decide_eq_false (by omega)
                    obtain ⟨ho, hgn⟩ := HNo.out h6
                    have HOo := Lib.hid ho
                    have HGn := Lib.hid hgn
                    clear ho hgn
                    go_wp2_with (first
                      | (with_reducible refine wpList_load_mid rfl 54 (.tmp 62) rfl g (o + i * 5) (by with_unfolding_all rfl) (entL x) _ HRX.out Try.underlying54 rfl (info54 x) ?_)
                      | (with_reducible refine wpList_alloc_run rfl 54 rfl (entL default).toArray zero54 ?_)
                      | (refine wpList_store_blk rfl 54 (.tmp 11) (.tmp 63) rfl wr.heap.size 54 (entL default).toArray (entL x).toArray (by rfl) (by rfl) (Blk.new wr 54 _) rfl (info54 _) (one_ent _) ?_
                         intro w2 hb2 hf2
                         have hF2 : Fr nob wr w2 := ((Fr.refl nob wr).alloc _).then hf2 (fun i hi => Or.inr (by unfold one at hi; omega))
                         have hc3 : w2.cell? ⟨wr.heap.size, 3, none⟩ = some (.int .i64 x.tries) := hb2.cell 3
                         have hc2 : w2.cell? ⟨wr.heap.size, 2, none⟩ = some (.int .i64 x.due) := hb2.cell 2
                         have hf3 := hb2.frozen 3
                         have hf22 := hb2.frozen 2
                         have hlen2 := hb2.lt
                         have HF2 := Lib.hid hF2
                         have HB4 : Hid (Blk ((w2.setCell ⟨wr.heap.size, 3, none⟩ (.int .i64 (x.tries + 1))).setCell ⟨wr.heap.size, 2, none⟩ (.int .i64 (now + W))) wr.heap.size 54 (entL (stepT now x)).toArray) := Lib.hid (by rw [← step_cells now W x HW.out]; exact (hb2.set_ 3 _).set_ 2 _)
                         clear hb2 hf2 hF2)
                      | (go_at_call 24
                         refine (HWt.out _).mono ?_
                         rintro en w3 ⟨rfl, rfl⟩)
                      | (with_reducible refine wpList_load_blk rfl 54 (.tmp 11) rfl wr.heap.size 54 (entL (stepT now x)).toArray _ (by with_unfolding_all rfl) HB4.out Try.underlying54 rfl (info54 _) ?_
                         obtain ⟨w4, hw4⟩ : ∃ w4, w4 = (w2.setCell ⟨wr.heap.size, 3, none⟩ (.int .i64 (x.tries + 1))).setCell ⟨wr.heap.size, 2, none⟩ (.int .i64 (now + W)) := ⟨_, rfl⟩
                         have hF4 : Fr nob wr w4 := by
                           rw [hw4]
                           exact ((HF2.out.setCell' (.inr (Nat.le_refl _)) _).setCell' (.inr (Nat.le_refl _)) _)
                         have hb4 := HB4.out
                         rw [← hw4] at hb4
                         rw [← hw4]
                         have hO4 : EntsR (w4.alloc (.cells (entL (stepT now x)).toArray 54)) u8 lo := Own.fr (Own.fr HE.out.ents hF4 (fun _ h => h.elim)) ((Fr.refl nob w4).alloc _) (fun _ h => h.elim)
                         have hS4 : Src (w4.alloc (.cells (entL (stepT now x)).toArray 54)) 5 (some ⟨w4.heap.size, 0, none⟩) 1 (entL (stepT now x)) := Src.of_new w4 54 (entL (stepT now x)).toArray 5 rfl
                         have HO4 := Lib.hid hO4
                         have HS4 := Lib.hid hS4
                         have HF4 := Lib.hid hF4
                         have HB44 := Lib.hid (hb4.alloc (.cells (entL (stepT now x)).toArray 54))
                         clear hO4 hS4 hF4 hw4 hb4 HB4)
                      | (with_reducible refine wpList_run _ _ rfl (exec_bs41 (stepT now x) w4 _ _ 83 rfl (by with_unfolding_all rfl)) ?_)
                      | (at_builtin
                         refine wpList_append_o _ rfl (.tmp 82) (.tmp 84) 41 rfl 54 i0 (.agg (entL default).toArray) 5 56 Try.underlying41 hi0 hz0 hz1 hz2 (by rfl) (by omega) u8 lo.length (qC lo) (by rfl) HO4.out (some ⟨w4.heap.size, 0, none⟩) 1 1 (entL (stepT now x)) (by rfl) HS4.out (entL_one _) (by simp only [maxLen]; omega) (by omega) ?_
                         intro v5 w5 hown5 hf5 hr5
                         simp only [Act.put, List.setIfInBounds_toArray, List.set_cons_zero, List.set_cons_succ]
                         have s2 := HF4.out.size
                         have s4 := HFF.out.size
                         have hF5 : Fr (rowOf u8) wr w5 := ((HF4.out.alloc _).mono (fun _ _ h => h.elim)).trans hf5
                         have hO5 : OutR W2 w5 v5 (lo ++ [stepT now x]) := ⟨EntsR.snoc hown5, fun j hj => (hr5 j hj).elim (HE.out.row j) (fun h => by rw [World.size_alloc] at h; omega)⟩
                         have hX5 : BoxR w5 b vr (lo.foldl insL s) now := ⟨HXX.out.blk.fr hF5 (fun hj => by have := HE.out.row b hj; have := HFr.out.size; omega), Own.fr HXX.out.ents hF5 (fun j hj => HDD.out j hj)⟩
                         have hG5 : OutS W2 w5 u9 lg := ⟨Own.fr HS.out.own hF5 (fun j hj hj2 => own_disj HE.out.ents HS.out.own (by decide) j hj hj2), HS.out.row⟩
                         have HB5 := Lib.hid (HB44.out.fr hf5 (fun hj => by have := Own.lt HE.out.ents hj; omega))
                         have HI5 := Lib.hid (insert_any b vr _ now (stepT now x) w5 hX5 hml hidx HMM.out)
                         have HD5 : Hid (∀ j, rowOf v5 j → ¬ rowOf vr j) := Lib.hid (fun j hj hj2 => (hr5 j hj).elim (fun h => HDD.out j h hj2) (fun h => by
                           have := Own.lt HXX.out.ents hj2
                           rw [World.size_alloc] at h
                           omega))
                         have HO5 := Lib.hid hO5
                         have HG5 := Lib.hid hG5
                         have HF5 := Lib.hid hF5
                         clear hown5 hf5 hr5 s2 s4 hF5 hO5 hX5 hG5)
                      | (with_reducible refine wpList_load_blk rfl 54 (.tmp 11) rfl wr.heap.size 54 (entL (stepT now x)).toArray _ (by with_unfolding_all rfl) HB5.out Try.underlying54 rfl (info54 _) ?_)
                      | (go_at_call 48
                         refine HI5.out.mono ?_
                         rintro en w6 ⟨rfl, hT⟩)
                      | fail)
                    go_roundw
                    case rel =>
                      obtain ⟨v6, hX6, hF6, hR6⟩ := hT
                      have s4 := HFF.out.size
                      have s5 := HF5.out.size
                      have s1 := HFr.out.size
                      have hbl2 : b < W2.heap.size := by omega
                      refine ⟨i + 1, v6, by omega, by go_num, ?_, ?_, ?_, (HFF.out.then HF5.out (fun j hj => .inr (HE.out.row j hj))).trans hF6, fun j hj => (hR6 j hj).elim (HRR.out j) (fun h => .inr (by omega)), fun j hj hj2 => (hR6 j hj2).elim (HD5.out j hj) (fun h => by have := Own.lt HO5.out.ents hj; omega)⟩
                      · rw [HOo.out]
                        exact out_fr hbl2 HO5.out hF6
                      · rw [HGn.out]
                        exact outs_fr hbl2 HG5.out hF6
                      · rw [HOo.out, List.foldl_append]
                        exact hX6
                    case measure => simp [intOf]; omega
                · obtain rfl : i = t.length := by omega
                  have hdk : decide ((t.length : Int) < (t.length : Int)) = false := decide_eq_false (by omega)
                  rw [List.take_length] at HE HS HXX
                  go_wp2_with fail
                  go_ret3
                  rw [HP.out]
                  have s1 := HFr.out.size
                  exact ⟨⟨_, _, rfl, ⟨HE.out.ents, fun j hj => by have := HE.out.row j hj; omega⟩, ⟨HS.out.own, fun j hj => by have := HS.out.row j hj; omega⟩⟩, vr, HXX.out, HFr.out.trans HFF.out, HRR.out⟩
end Go.Proofs.Ytkagfnocpllcpaa
