/- Up: the walk. -/
import Derived.Test.YtnlkjhhocehhaaaUp
namespace Go.Proofs.Ytnlkjhhocehhaaa
set_option linter.unusedVariables false
open Go Go.RowKit Go.Proofs Sha
theorem Dk.fr_row {w W W' : World} {d g n : Nat} {vs : List Value} {l : List (List UInt8)} {br : Bool} {v' : Value} {e : TypeId} {s m : Nat} {xs : List Value} (h : Dk w W d g n vs l br) (ho : Own W e s v' m xs) (h1 : e ≠ 117) (h2 : e ≠ 22) (h3 : e ≠ 5) (hf : Fr (rowOf v') W W') (hge : ∀ k, rowOf v' k → w.heap.size ≤ k) : Dk w W' d g n vs l br :=
  ⟨h.blk.fr hf (Own.blk_ne ho h.blk h1), h.arr.fr hf (Own.blk_ne ho h.arr h2), h.n1, h.n2, fun i hi => Own.fr (h.own i hi) hf (own_disj ho (h.own i hi) h3), h.dis, h.dnew, h.rnew, h.bel.trans (hf.below h.bel.size hge)⟩
set_option maxRecDepth 100000 in
set_option maxHeartbeats 8000000 in
theorem up_any {w W : World} {d g n : Nat} {vs : List Value} {l : List (List UInt8)} {br : Bool} (h : Dk w W d g n vs l br) (hn : n ≤ 100) (hl : ∀ i, (l.getD i []).length ≤ 200000) :
    Calls Try.prog 57 #[dP d] W fun e W' => ∃ v, e = .returned v ∧ LLs (newer W) W' v (l.map (fun b => (scanB b).1)) ∧ DkTo w d g n vs W (l.map cutB) false W' := by
  obtain ⟨i2, hi2, hy0, hy1, hy2⟩ : ∃ i, Try.prog.info? 48 = some i ∧ i.zero = some (.slice none 0 0) ∧ i.size = 1 ∧ i.bytes = 24 := by
    have := info48
    cases hi : Try.prog.info? 48 with
    | none => rw [hi] at this; cases this
    | some i =>
      rw [hi] at this
      simp only [Option.map_some, Option.some.injEq, Prod.mk.injEq] at this
      exact ⟨i, rfl, this.1, this.2.1, this.2.2⟩
  have hcd : W.cell? ⟨d, 0, none⟩ = some (.slice (some ⟨g, 0, none⟩) n n) := h.blk.cell 0
  have HD := Lib.hid h
  have HL := Lib.hid hl
  have hn2 := h.n2
  have HN2 := Lib.hid hn2
  clear h hl hn2
  go_enter Try.func57, Try.ntmps57
  go_wp2_with fail
  go_loopw [3, 15] (fun c3 c15 wr => ∃ (i : Nat) (vs1 : List Value), i ≤ n ∧ c15 = .int .i64 (i : Int) ∧ LLs (newer W) wr c3 ((l.take i).map (fun b => (scanB b).1)) ∧ Dk w wr d g n vs1 (upTo i l) br ∧ Fr (dfoot d g n vs) W wr ∧ (∀ j, j < n → ∀ k, rowOf (vs1.getD j undef) k → dfoot d g n vs k ∨ W.heap.size ≤ k) ∧ (∀ j, i ≤ j → j < n → vs1.getD j undef = vs.getD j undef)) (fun _ c15 _ => n - (intOf c15).toNat)
  case atStart => exact ⟨0, vs, by omega, rfl, LLs.nil, by have := HD.out; unfold upTo; simpa using this, Fr.refl _ _, fun j hj k hk => .inl (.inr (.inr ⟨j, hj, hk⟩)), fun j _ _ => rfl⟩
  case round =>
    obtain ⟨i, vs1, hi, rfl, hLL, hD, hF, hR, hV⟩ := hrel
    have HLL := Lib.hid hLL
    have HDD := Lib.hid hD
    have HFF := Lib.hid hF
    have HRR := Lib.hid hR
    have HVV := Lib.hid hV
    clear hLL hD hF hR hV
    by_cases hin : i < n
    · have hd : decide ((i : Int) < (n : Int)) = true := decide_eq_true (by omega)
      have hck := HDD.out.cell i hin
      have hle : (upTo i l).getD i [] = l.getD i [] := by rw [upTo_at i l i (by rw [HN2.out]; exact hin), if_neg (by omega)]
      have hown := HDD.out.own i hin
      rw [hle] at hown
      obtain ⟨A, c, hv, hc1, hc2, hby, hA⟩ := Sl.of_own hown
      have hll := HL.out i
      obtain ⟨b, hb⟩ : ∃ b, b = l.getD i [] := ⟨_, rfl⟩
      rw [← hb] at hv hc1 hby hll hle
      have hst := scan_told _ b (Nat.le_refl _)
      have HS := Lib.hid (scan_any b A c wr hby (by omega) hc1 hc2 hA)
      obtain ⟨m, hm⟩ : ∃ m, m = b.length := ⟨_, rfl⟩
      obtain ⟨t, ht⟩ : ∃ t, t = (scanB b).2 := ⟨_, rfl⟩
      rw [← ht] at HS hst
      rw [← hm] at HS hst hc1 hll
      obtain ⟨-, htm⟩ := hst
      rw [hv, ← hm] at hck
      have hi0 : (0 : Int) ≤ (i : Int) := by omega
      have hini : (i : Int) < (n : Int) := by omega
      have hti : (t : Int) ≤ (m : Int) := by omega
      have htc : (t : Int) ≤ (c : Int) := by omega
      have htc' : t ≤ c := by omega
      have HB := Lib.hid hb
      have HT := Lib.hid ht
      have HM := Lib.hid hm
      have HV0 := Lib.hid hv
      have HLE := Lib.hid hle
      clear hb ht hm hv hown hby hA hle hc2 hll
      obtain ⟨wo, rfl⟩ : ∃ wo : World, wo = wr := ⟨_, rfl⟩
      go_wp2_with (first
        | (go_at_call 45
           refine HS.out.mono ?_
           rintro e w2 ⟨v2, rfl, hL2, hb2⟩
           obtain ⟨A2, c2, hv2, -, -⟩ := hL2.ls.shape
           have HV2 := Lib.hid hv2
           subst hv2)
        | fail)
      have hD2 := HDD.out.keep hb2
      have hcd2 : w2.cell? ⟨d, 0, none⟩ = some (.slice (some ⟨g, 0, none⟩) n n) := hD2.blk.cell 0
      have hld : d < w2.heap.size := hD2.blk.lt
      have HD2 := Lib.hid hD2
      have HB2 := Lib.hid hb2
      have HL2 := Lib.hid hL2
      clear hD2 hb2 hL2
      refine wp_region_pre 10 0 (by kernel_rfl) (by kernel_rfl) rfl ?_
      simp only [List.take_succ_cons, List.take_zero, List.drop_succ_cons, List.drop_zero]
      repeat (go_big_quiet_step (fail))
      refine wpQuiet_nil ?_
      intro w3 hb3
      have hD3 := HD2.out.keep hb3
      have hcg := hD3.arr.cell i
      have hcg' : w3.cell? ⟨g, i, none⟩ = some (vs1.getD i undef) := hD3.cell i hin
      have hfg := hD3.arr.frozen i
      have hD4 := hD3.cut i hin t (by rw [HLE.out, ← HM.out]; exact htm) A c (by rw [HLE.out, HV0.out])
      have hS : Fr (one g) w3 (w3.setCell ⟨g, i, none⟩ (.slice A t t)) := (Fr.refl (one g) w3).setCell' (.inl rfl) _
      have hgW : g < W.heap.size := HD.out.arr.lt
      have hBo3 : Below wo.heap.size wo w3 := HB2.out.trans (hb3.mono HB2.out.size)
      obtain ⟨us, hu1, hu2, hu3, hu4⟩ := (HLL.out.keep hBo3).fr hS (fun k hk => by unfold one at hk; subst hk; unfold newer; omega)
      have hL4 : LsP (newer W) (w3.setCell ⟨g, i, none⟩ (.slice A t t)) _ _ := (((HL2.out.keep hb3).mono (fun k hk => by unfold newer at hk ⊢; have := HFF.out.size; omega))).fr hS (fun k hk => by unfold one at hk; subst hk; unfold newer; omega)
      have hW4 : Fr (dfoot d g n vs) W (w3.setCell ⟨g, i, none⟩ (.slice A t t)) := (HFF.out.trans (Fr.of_below hBo3 _)).then hS (fun k hk => by unfold one at hk; subst hk; exact .inl (.inr (.inl rfl)))
      rw [hcg'] at hcg
      have HCG := Lib.hid hcg
      obtain ⟨w4, hw4⟩ : ∃ w4, w4 = w3.setCell ⟨g, i, none⟩ (.slice A t t) := ⟨_, rfl⟩
      rw [← hw4] at hD4 hu2 hu4 hL4 hW4
      have hb5 : Below w4.heap.size w4 (w4.alloc (.cells #[.slice A2 (scanB b).1.length c2] 48)) := (Below.refl _ w4).alloc (Nat.le_refl _) _
      have hO5 : Own (w4.alloc (.cells #[.slice A2 (scanB b).1.length c2] 48)) 48 1 u3 ((l.take i).map (fun b => (scanB b).1)).length us := Own.fr hu2 (Fr.of_below hb5 nob) (fun _ h => h.elim)
      have hS5 : Src (w4.alloc (.cells #[.slice A2 (scanB b).1.length c2] 48)) 1 (some ⟨w4.heap.size, 0, none⟩) 1 [.slice A2 (scanB b).1.length c2] := Src.of_new w4 48 #[.slice A2 (scanB b).1.length c2] 1 rfl
      have hrl : ((l.take i).map (fun b => (scanB b).1)).length = i := by rw [List.length_map, List.length_take, HN2.out]; omega
      have hsz : w4.heap.size = w3.heap.size := by rw [hw4]; simp [World.setCell]
      rw [hsz] at hS5
      clear hsz
      have HO5 := Lib.hid hO5
      have HS5 := Lib.hid hS5
      have HB5 := Lib.hid hb5
      have HW4 := Lib.hid hw4
      have HU1 := Lib.hid hu1
      have HU3 := Lib.hid hu3
      have HU4 := Lib.hid hu4
      have HL4 := Lib.hid hL4
      have HD4 := Lib.hid hD4
      have HF4 := Lib.hid hW4
      have HRL := Lib.hid hrl
      clear hcg hu1 hu2 hu3 hu4 hL4 hD4 hW4 hb5 hO5 hS5 hw4 hS hBo3 hD3 hrl
      go_wp2_with (first
        | (at_builtin
           rw [← HW4.out]
           refine wpList_append_o _ rfl (.tmp 35) (.tmp 37) 70 rfl 48 i2 (.slice none 0 0) 1 24 Try.underlying70 hi2 hy0 hy1 hy2 (by rfl) (by omega) u3 _ us (by rfl) HO5.out (some ⟨w3.heap.size, 0, none⟩) 1 1 [.slice A2 (scanB b).1.length c2] (by rfl) HS5.out (by simp [Value.oneCell']) (by rw [HRL.out]; simp only [maxLen]; omega) (by rw [HRL.out]; omega) ?_
           intro v6 w6 hown6 hf6 hr6
           simp only [Act.put, List.setIfInBounds_toArray, List.set_cons_zero, List.set_cons_succ])
        | fail)
      go_roundw
      case rel =>
        have s4 := HF4.out.size
        have hts : (l.take (i + 1)).map (fun b => (scanB b).1) = (l.take i).map (fun b => (scanB b).1) ++ [(scanB b).1] := by
          rw [List.take_succ_eq_append_getElem (by rw [HN2.out]; exact hin), List.map_append, HB.out]
          simp [show i < l.length by rw [HN2.out]; exact hin]
        have hF6 : Fr (dfoot d g n vs) W w6 := (HF4.out.trans (Fr.of_below HB5.out _)).then hf6 (fun k hk => .inr (HU3.out k hk))
        have hup : upTo (i + 1) l = (upTo i l).set i (((upTo i l).getD i []).take t) := by
          rw [upTo_succ i l (by rw [HN2.out]; exact hin), HLE.out, ← HB.out, HT.out]; rfl
        refine ⟨i + 1, vs1.set i (.slice A t t), by omega, by go_num, ?_, ?_, hF6, fun j hj k hk => ?_, fun j hj1 hj2 => ?_⟩
        · rw [hts]
          refine LLs.snoc HU1.out hown6 (fun k hk => (hr6 k hk).elim (HU3.out k) (fun h => by rw [World.size_alloc] at h; unfold newer; omega)) (fun j hj => ((HU4.out j hj).keep HB5.out).fr_row HO5.out (by decide) (by decide) hf6) ((HL4.out.keep HB5.out).fr_row HO5.out (by decide) (by decide) hf6)
        · rw [hup]
          exact (HD4.out.keep HB5.out).fr_row HO5.out (by decide) (by decide) (by decide) hf6 (fun k hk => by have := HU3.out k hk; unfold newer at this; have := HD.out.bel.size; omega)
        · by_cases e : j = i
          · subst e
            have : (vs1.set j (.slice A t t)).getD j undef = .slice A t t := by simp [show j < vs1.length by rw [HDD.out.n1]; exact hj]
            rw [this] at hk
            exact HRR.out j hj k (by rw [HV0.out]; cases A <;> exact hk)
          · have : (vs1.set i (.slice A t t)).getD j undef = vs1.getD j undef := by simp only [List.getD_eq_getElem?_getD]; rw [List.getElem?_set_ne (fun h => e h.symm)]
            rw [this] at hk
            exact HRR.out j hj k hk
        · have : (vs1.set i (.slice A t t)).getD j undef = vs1.getD j undef := by simp only [List.getD_eq_getElem?_getD]; rw [List.getElem?_set_ne (by omega)]
          rw [this]
          exact HVV.out j (by omega) hj2
      case measure => simp [intOf]; omega
    · obtain rfl : i = n := by omega
      have hd : decide ((i : Int) < (i : Int)) = false := decide_eq_false (by omega)
      have hcdb : wr.cell? ⟨d, 1, none⟩ = some (.bool br) := HDD.out.blk.cell 1
      have hfd := HDD.out.blk.frozen 1
      obtain ⟨us, hu1, hu2, -, -⟩ := HLL.out
      obtain ⟨A3, c3, hv3, -, -⟩ := hu2.shape
      have htk : (l.take i) = l := List.take_of_length_le (by rw [HN2.out]; omega)
      rw [htk] at HLL hv3
      have hall : upTo i l = l.map cutB := by rw [← HN2.out]; exact upTo_all l
      rw [hall] at HDD
      clear htk hall hu1 hu2
      subst hv3
      go_wp2_with fail
      go_ret
      refine ⟨_, rfl, HLL.out.fr ((Fr.refl (one d) wr).setCell' (.inl rfl) _) (fun k hk => ?_), vs1, HDD.out.break_ false, HFF.out.setCell' (.inl (.inl rfl)) _, HRR.out⟩
      unfold one at hk
      subst hk
      have := HD.out.blk.lt
      unfold newer
      omega
end Go.Proofs.Ytnlkjhhocehhaaa
