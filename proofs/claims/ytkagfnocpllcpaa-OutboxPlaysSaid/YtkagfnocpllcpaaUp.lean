/- The contracts of container/heap's up and down over a queue of entries. -/
import Derived.Test.YtkagfnocpllcpaaMethod
namespace Go.Proofs.Ytkagfnocpllcpaa
set_option linter.unusedVariables false
open Go Go.RowKit Go.Proofs
/-- The interface value that holds a box's queue. -/
abbrev qI (b : Nat) : Value := .iface 61 (.pointer (some ⟨b, 0, none⟩))
set_option maxRecDepth 100000 in
set_option maxHeartbeats 1000000 in
theorem up_any (b : Nat) (l : List E) (f j : Nat) (v : Value) (now : Int) (w : World) (hb : Blk w b 58 #[v, .int .i64 now]) (h : Ents w v l) (hl : l.length ≤ 1000) (hj : j < l.length) (hf : j < f) :
    Calls Try.prog 37 #[qI b, .int .i64 (j : Int)] w fun en w' => en = .returned (.tuple #[]) ∧ Ents w' v (Hp.upL ltE f l j) ∧ Fr (rowOf v) w w' := by
  have hne : ¬ rowOf v b := h.blk_ne hb (by decide)
  have H := Lib.hid h
  have HB := Lib.hid hb
  clear h hb
  go_enter Try.func37, Try.ntmps37
  go_wp2_with fail
  go_loopw [1, 4] (fun c1 _ wr => ∃ (f' j' : Nat) (l' : List E), j' < f' ∧ l'.length = l.length ∧ j' < l.length ∧ c1 = .int .i64 j' ∧ Hp.upL ltE f l j = Hp.upL ltE f' l' j' ∧ Ents wr v l' ∧ Fr (rowOf v) w wr) (fun c1 _ _ => (intOf c1).toNat)
  case atStart => exact ⟨f, j, l, hf, rfl, hj, rfl, rfl, H.out, Fr.refl _ _⟩
  case round =>
    obtain ⟨f', j', l', hf', hl', hj', rfl, he, hE, hF⟩ := hrel
    have HE := Lib.hid he
    clear he
    have hcell : wr.cell? ⟨b, 0, none⟩ = some v := (HB.out.fr hF hne).cell 0
    have hml := m_less b wr v hcell
    have hms := m_swap b
    cases j' with
    | zero =>
      have hu : Hp.upL ltE f' l' 0 = l' := by
        cases f' with
        | zero => rfl
        | succ f' => rw [Hp.upL, if_pos (by omega)]
      have HU := Lib.hid hu
      clear hu
      go_wp2_with fail
      go_end0
      exact ⟨rfl, by rw [HE.out, HU.out]; exact hE, hF⟩
    | succ k =>
      obtain ⟨i, hi⟩ : ∃ i, i = k / 2 := ⟨_, rfl⟩
      have hik : ((k : Int) / 2) = (i : Int) := by omega
      have hnq : ((i : Int) == (k : Int) + 1) = false := by rw [beq_eq_false_iff_ne]; omega
      have hil : i < l'.length := by omega
      have hkl : k + 1 < l'.length := by omega
      have hl1 : l'.length ≤ 1000 := by omega
      obtain ⟨f'', rfl⟩ : ∃ f'', f' = f'' + 1 := ⟨f' - 1, by omega⟩
      have hst : Hp.upL ltE (f'' + 1) l' (k + 1) = if ltE (l'.getD (k + 1) default) (l'.getD i default) then Hp.upL ltE f'' (Hp.swapL l' i (k + 1)) i else l' := by
        rw [Hp.upL, if_neg (by omega), show (k + 1 - 1) / 2 = i by omega]
      have hless := less_any l' v (k + 1) i wr hE hkl hil hl1
      have hswap := fun W (hW : Ents W v l') => swap_any l' v i (k + 1) W hW hil hkl hl1
      obtain ⟨t, ht⟩ : ∃ t, t = ltE (l'.getD (k + 1) default) (l'.getD i default) := ⟨_, rfl⟩
      rw [← ht] at hst hless
      have HST := Lib.hid hst
      have HL := Lib.hid hless
      have HS := Lib.hid hswap
      have hif : i < f'' := by omega
      clear hst hless hswap ht hi
      cases t with
      | false =>
        go_wp2_with (first
          | (go_at_call 90
             refine HL.out.mono ?_
             rintro e w1 ⟨rfl, hb1⟩)
          | fail)
        go_end0
        exact ⟨rfl, by rw [HE.out, HST.out, if_neg (by simp)]; exact hE.keep hb1, hF.trans (Fr.of_below hb1 _)⟩
      | true =>
        go_wp2_with (first
          | (go_at_call 90
             refine HL.out.mono ?_
             rintro e w1 ⟨rfl, hb1⟩
             have hF1 : Fr (rowOf v) w w1 := hF.trans (Fr.of_below hb1 _)
             have hc1 : w1.cell? ⟨b, 0, none⟩ = some v := (HB.out.fr hF1 hne).cell 0
             have hms1 := hms w1 v hc1
             have HS1 := Lib.hid (HS.out w1 (hE.keep hb1)))
          | (go_at_call 91
             refine HS1.out.mono ?_
             rintro e w2 ⟨rfl, hE2, hF2⟩)
          | fail)
        go_roundw
        case rel => exact ⟨f'', i, _, hif, by rw [Hp.length_swapL]; exact hl', by omega, rfl, by rw [HE.out, HST.out]; exact if_pos trivial, hE2, hF1.trans hF2⟩
        case measure => simp [intOf]; omega
end Go.Proofs.Ytkagfnocpllcpaa
