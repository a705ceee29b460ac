/- The contract of container/heap's down over a queue of entries. -/
import Derived.Test.YtkagfnocpllcpaaUp
namespace Go.Proofs.Ytkagfnocpllcpaa
set_option linter.unusedVariables false
open Go Go.RowKit Go.Proofs
theorem downL_end (f : Nat) (l : List E) (i n : Nat) (h : n ≤ 2 * i + 1) : Hp.downL ltE f l i n = (l, i) := by
  cases f with
  | zero => rfl
  | succ f => rw [Hp.downL, if_pos h]
set_option maxRecDepth 100000 in
set_option maxHeartbeats 4000000 in
theorem down_any (b : Nat) (l : List E) (f i n : Nat) (v : Value) (now : Int) (w : World) (hb : Blk w b 58 #[v, .int .i64 now]) (h : Ents w v l) (hl : l.length ≤ 1000) (hn : n ≤ l.length) (hi : i ≤ 1000) (hf : n ≤ i + f) :
    Calls Try.prog 40 #[qI b, .int .i64 (i : Int), .int .i64 (n : Int)] w fun en w' => en = .returned (.bool (decide (i < (Hp.downL ltE f l i n).2))) ∧ Ents w' v (Hp.downL ltE f l i n).1 ∧ Fr (rowOf v) w w' := by
  have hne : ¬ rowOf v b := h.blk_ne hb (by decide)
  have H := Lib.hid h
  have HB := Lib.hid hb
  clear h hb
  go_enter Try.func40, Try.ntmps40
  go_wp2_with fail
  go_loopw [7, 8, 9, 10] (fun c7 _ _ _ wr => ∃ (f' i' : Nat) (l' : List E), n ≤ i' + f' ∧ i' ≤ 1000 ∧ l'.length = l.length ∧ c7 = .int .i64 i' ∧ Hp.downL ltE f l i n = Hp.downL ltE f' l' i' n ∧ Ents wr v l' ∧ Fr (rowOf v) w wr) (fun c7 _ _ _ _ => 1000 - (intOf c7).toNat)
  case atStart => exact ⟨f, i, l, hf, hi, rfl, rfl, rfl, H.out, Fr.refl _ _⟩
  case round =>
    obtain ⟨f', k, l', hf', hk, hl', rfl, he, hE, hF⟩ := hrel
    have HE := Lib.hid he
    clear he
    have hcell : wr.cell? ⟨b, 0, none⟩ = some v := (HB.out.fr hF hne).cell 0
    have hml := m_less b wr v hcell
    have HMS := Lib.hid (m_swap b)
    have HML := Lib.hid (m_less b)
    by_cases hend : n ≤ 2 * k + 1
    · have hu := downL_end f' l' k n hend
      have HU := Lib.hid hu
      clear hu
      have hd1 : decide ((n : Int) ≤ 2 * (k : Int) + 1) = true := decide_eq_true (by omega)
      go_wp2_with fail
      go_ret
      exact ⟨by rw [HE.out, HU.out]; exact congrArg (fun z => Ending.returned (.bool z)) (by simp), by rw [HE.out, HU.out]; exact hE, hF⟩
    · have hd1 : decide ((n : Int) ≤ 2 * (k : Int) + 1) = false := decide_eq_false (by omega)
      have hd2 : decide (2 * (k : Int) + 1 < 0) = false := decide_eq_false (by omega)
      obtain ⟨f'', rfl⟩ : ∃ f'', f' = f'' + 1 := ⟨f' - 1, by omega⟩
      have hst : Hp.downL ltE (f'' + 1) l' k n = if ltE (l'.getD (Hp.kid ltE l' k n) default) (l'.getD k default) then Hp.downL ltE f'' (Hp.swapL l' k (Hp.kid ltE l' k n)) (Hp.kid ltE l' k n) n else (l', k) := by
        rw [Hp.downL, if_neg hend]
      have hkl : k < l'.length := by omega
      have h1l : 2 * k + 1 < l'.length := by omega
      have hl1 : l'.length ≤ 1000 := by omega
      have hz1 : ((2 * k + 1 : Nat) : Int) = 2 * (k : Int) + 1 := by omega
      have hz2 : ((2 * k + 2 : Nat) : Int) = 2 * (k : Int) + 1 + 1 := by omega
      by_cases h2 : 2 * k + 2 < n
      · have hd3 : decide (2 * (k : Int) + 1 + 1 < (n : Int)) = true := decide_eq_true (by omega)
        have h2l : 2 * k + 2 < l'.length := by omega
        have hfst := less_any l' v (2 * k + 2) (2 * k + 1) wr hE h2l h1l hl1
        obtain ⟨t1, ht1⟩ : ∃ t, t = ltE (l'.getD (2 * k + 2) default) (l'.getD (2 * k + 1) default) := ⟨_, rfl⟩
        rw [← ht1, hz1, hz2] at hfst
        have HL0 := Lib.hid hfst
        clear hfst
        cases t1 with
        | true =>
          have hkid : Hp.kid ltE l' k n = (2 * k + 2) := by unfold Hp.kid; rw [if_pos ⟨h2, ht1.symm⟩]
          have hjl : (2 * k + 2) < l'.length := by omega
          rw [hkid] at hst
          have hsec := fun W (hW : Ents W v l') => less_any l' v (2 * k + 2) k W hW hjl hkl hl1
          have hswap := fun W (hW : Ents W v l') => swap_any l' v k (2 * k + 2) W hW hkl hjl hl1
          obtain ⟨t, ht⟩ : ∃ t, t = ltE (l'.getD (2 * k + 2) default) (l'.getD k default) := ⟨_, rfl⟩
          rw [← ht] at hst hsec
          rw [hz2] at hsec hswap
          have HST := Lib.hid hst
          have HL := Lib.hid hsec
          have HS := Lib.hid hswap
          clear hst hsec hswap ht hkid hz1 hz2 ht1
          cases t with
          | false =>
            have tok1 : True := trivial
            go_wp2_with (first
              | (go_at_call 90
                 have _t := tok1
                 refine HL0.out.mono ?_
                 rintro e w0 ⟨rfl, hb0⟩
                 clear tok1
                 have hF0 : Fr (rowOf v) w w0 := hF.trans (Fr.of_below hb0 _)
                 have hE0 := hE.keep hb0
                 have hc0 : w0.cell? ⟨b, 0, none⟩ = some v := (HB.out.fr hF0 hne).cell 0
                 have hml0 := HML.out w0 v hc0
                 have HL1 := Lib.hid (HL.out w0 hE0))
              | (go_at_call 90
                 refine HL1.out.mono ?_
                 rintro e w1 ⟨rfl, hb1⟩
                 have hF1 : Fr (rowOf v) w w1 := hF0.trans (Fr.of_below hb1 _)
                 have hE1 := hE0.keep hb1
                 have hc1 : w1.cell? ⟨b, 0, none⟩ = some v := (HB.out.fr hF1 hne).cell 0
                 have hms1 := HMS.out w1 v hc1
                 have HS1 := Lib.hid (HS.out w1 hE1))
              | fail)
            go_ret
            exact ⟨by rw [HE.out, HST.out, if_neg (by simp)]; exact congrArg (fun z => Ending.returned (.bool z)) (by simp), by rw [HE.out, HST.out, if_neg (by simp)]; exact hE1, hF1⟩
          | true =>
            have tok1 : True := trivial
            go_wp2_with (first
              | (go_at_call 90
                 have _t := tok1
                 refine HL0.out.mono ?_
                 rintro e w0 ⟨rfl, hb0⟩
                 clear tok1
                 have hF0 : Fr (rowOf v) w w0 := hF.trans (Fr.of_below hb0 _)
                 have hE0 := hE.keep hb0
                 have hc0 : w0.cell? ⟨b, 0, none⟩ = some v := (HB.out.fr hF0 hne).cell 0
                 have hml0 := HML.out w0 v hc0
                 have HL1 := Lib.hid (HL.out w0 hE0))
              | (go_at_call 90
                 refine HL1.out.mono ?_
                 rintro e w1 ⟨rfl, hb1⟩
                 have hF1 : Fr (rowOf v) w w1 := hF0.trans (Fr.of_below hb1 _)
                 have hE1 := hE0.keep hb1
                 have hc1 : w1.cell? ⟨b, 0, none⟩ = some v := (HB.out.fr hF1 hne).cell 0
                 have hms1 := HMS.out w1 v hc1
                 have HS1 := Lib.hid (HS.out w1 hE1))
              | (go_at_call 91
                 refine HS1.out.mono ?_
                 rintro e w2 ⟨rfl, hE2, hF2⟩)
              | fail)
            go_roundw
            case rel => exact ⟨f'', (2 * k + 2), _, by omega, by omega, by rw [Hp.length_swapL]; exact hl', by go_num, by rw [HE.out, HST.out]; exact if_pos trivial, hE2, hF1.trans hF2⟩
            case measure => simp [intOf]; omega
        | false =>
          have hkid : Hp.kid ltE l' k n = (2 * k + 1) := by unfold Hp.kid; rw [if_neg (by rw [← ht1]; simp)]
          have hjl : (2 * k + 1) < l'.length := by omega
          rw [hkid] at hst
          have hsec := fun W (hW : Ents W v l') => less_any l' v (2 * k + 1) k W hW hjl hkl hl1
          have hswap := fun W (hW : Ents W v l') => swap_any l' v k (2 * k + 1) W hW hkl hjl hl1
          obtain ⟨t, ht⟩ : ∃ t, t = ltE (l'.getD (2 * k + 1) default) (l'.getD k default) := ⟨_, rfl⟩
          rw [← ht] at hst hsec
          rw [hz1] at hsec hswap
          have HST := Lib.hid hst
          have HL := Lib.hid hsec
          have HS := Lib.hid hswap
          clear hst hsec hswap ht hkid hz1 hz2 ht1
          cases t with
          | false =>
            have tok1 : True := trivial
            go_wp2_with (first
              | (go_at_call 90
                 have _t := tok1
                 refine HL0.out.mono ?_
                 rintro e w0 ⟨rfl, hb0⟩
                 clear tok1
                 have hF0 : Fr (rowOf v) w w0 := hF.trans (Fr.of_below hb0 _)
                 have hE0 := hE.keep hb0
                 have hc0 : w0.cell? ⟨b, 0, none⟩ = some v := (HB.out.fr hF0 hne).cell 0
                 have hml0 := HML.out w0 v hc0
                 have HL1 := Lib.hid (HL.out w0 hE0))
              | (go_at_call 90
                 refine HL1.out.mono ?_
                 rintro e w1 ⟨rfl, hb1⟩
                 have hF1 : Fr (rowOf v) w w1 := hF0.trans (Fr.of_below hb1 _)
                 have hE1 := hE0.keep hb1
                 have hc1 : w1.cell? ⟨b, 0, none⟩ = some v := (HB.out.fr hF1 hne).cell 0
                 have hms1 := HMS.out w1 v hc1
                 have HS1 := Lib.hid (HS.out w1 hE1))
              | fail)
            go_ret
            exact ⟨by rw [HE.out, HST.out, if_neg (by simp)]; exact congrArg (fun z => Ending.returned (.bool z)) (by simp), by rw [HE.out, HST.out, if_neg (by simp)]; exact hE1, hF1⟩
          | true =>
            have tok1 : True := trivial
            go_wp2_with (first
              | (go_at_call 90
                 have _t := tok1
                 refine HL0.out.mono ?_
                 rintro e w0 ⟨rfl, hb0⟩
                 clear tok1
                 have hF0 : Fr (rowOf v) w w0 := hF.trans (Fr.of_below hb0 _)
                 have hE0 := hE.keep hb0
                 have hc0 : w0.cell? ⟨b, 0, none⟩ = some v := (HB.out.fr hF0 hne).cell 0
                 have hml0 := HML.out w0 v hc0
                 have HL1 := Lib.hid (HL.out w0 hE0))
              | (go_at_call 90
                 refine HL1.out.mono ?_
                 rintro e w1 ⟨rfl, hb1⟩
                 have hF1 : Fr (rowOf v) w w1 := hF0.trans (Fr.of_below hb1 _)
                 have hE1 := hE0.keep hb1
                 have hc1 : w1.cell? ⟨b, 0, none⟩ = some v := (HB.out.fr hF1 hne).cell 0
                 have hms1 := HMS.out w1 v hc1
                 have HS1 := Lib.hid (HS.out w1 hE1))
              | (go_at_call 91
                 refine HS1.out.mono ?_
                 rintro e w2 ⟨rfl, hE2, hF2⟩)
              | fail)
            go_roundw
            case rel => exact ⟨f'', (2 * k + 1), _, by omega, by omega, by rw [Hp.length_swapL]; exact hl', by go_num, by rw [HE.out, HST.out]; exact if_pos trivial, hE2, hF1.trans hF2⟩
            case measure => simp [intOf]; omega
      · have hd3 : decide (2 * (k : Int) + 1 + 1 < (n : Int)) = false := decide_eq_false (by omega)
        have hkid : Hp.kid ltE l' k n = (2 * k + 1) := by unfold Hp.kid; rw [if_neg (fun hh => h2 hh.1)]
        have hjl : (2 * k + 1) < l'.length := by omega
        rw [hkid] at hst
        have hsec := fun W (hW : Ents W v l') => less_any l' v (2 * k + 1) k W hW hjl hkl hl1
        have hswap := fun W (hW : Ents W v l') => swap_any l' v k (2 * k + 1) W hW hkl hjl hl1
        obtain ⟨t, ht⟩ : ∃ t, t = ltE (l'.getD (2 * k + 1) default) (l'.getD k default) := ⟨_, rfl⟩
        rw [← ht] at hst hsec
        rw [hz1] at hsec hswap
        have HST := Lib.hid hst
        have HL := Lib.hid hsec
        have HS := Lib.hid hswap
        clear hst hsec hswap ht hkid hz1 hz2
        cases t with
        | false =>
          have HL1 := Lib.hid (HL.out wr hE)
          go_wp2_with (first
            | (go_at_call 90
               refine HL1.out.mono ?_
               rintro e w1 ⟨rfl, hb1⟩
               have hF1 : Fr (rowOf v) w w1 := hF.trans (Fr.of_below hb1 _)
               have hE1 := hE.keep hb1
               have hc1 : w1.cell? ⟨b, 0, none⟩ = some v := (HB.out.fr hF1 hne).cell 0
               have hms1 := HMS.out w1 v hc1
               have HS1 := Lib.hid (HS.out w1 hE1))
            | fail)
          go_ret
          exact ⟨by rw [HE.out, HST.out, if_neg (by simp)]; exact congrArg (fun z => Ending.returned (.bool z)) (by simp), by rw [HE.out, HST.out, if_neg (by simp)]; exact hE1, hF1⟩
        | true =>
          have HL1 := Lib.hid (HL.out wr hE)
          go_wp2_with (first
            | (go_at_call 90
               refine HL1.out.mono ?_
               rintro e w1 ⟨rfl, hb1⟩
               have hF1 : Fr (rowOf v) w w1 := hF.trans (Fr.of_below hb1 _)
               have hE1 := hE.keep hb1
               have hc1 : w1.cell? ⟨b, 0, none⟩ = some v := (HB.out.fr hF1 hne).cell 0
               have hms1 := HMS.out w1 v hc1
               have HS1 := Lib.hid (HS.out w1 hE1))
            | (go_at_call 91
               refine HS1.out.mono ?_
               rintro e w2 ⟨rfl, hE2, hF2⟩)
            | fail)
          go_roundw
          case rel => exact ⟨f'', (2 * k + 1), _, by omega, by omega, by rw [Hp.length_swapL]; exact hl', by go_num, by rw [HE.out, HST.out]; exact if_pos trivial, hE2, hF1.trans hF2⟩
          case measure => simp [intOf]; omega
end Go.Proofs.Ytkagfnocpllcpaa
