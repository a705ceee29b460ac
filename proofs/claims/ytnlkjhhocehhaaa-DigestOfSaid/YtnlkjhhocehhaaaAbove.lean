/- The contract of the reference's above: is a number above another one? -/
import Derived.Test.YtnlkjhhocehhaaaRoots
import Derived.Test.YtnlkjhhocehhaaaFrame
import Derived.IntWalk
namespace Go.Proofs.Ytnlkjhhocehhaaa
set_option linter.unusedVariables false
open Go Go.RowKit Go.Proofs Sha
def vals64 (l : List Nat) : List Value := l.map fun x : Nat => Value.int .u64 (x : Int)
/-- A slice of numbers of 64 bits. -/
def U64s (w : World) (A : Option Addr) (l : List Nat) : Prop := Src w 1 A l.length (vals64 l)
theorem U64s.at_ {w : World} {A : Option Addr} {l : List Nat} (h : U64s w A l) (i : Nat) (hi : i < l.length) : ∃ g o, A = some ⟨g, o, none⟩ ∧ g < w.heap.size ∧ w.cell? ⟨g, o + i, none⟩ = some (.int .u64 ((l.getD i 0 : Nat) : Int)) := by
  obtain ⟨g, o, rfl, hg, hc⟩ := h.2 (by omega)
  exact ⟨g, o, rfl, hg, hc i _ (by simp [vals64, hi])⟩
set_option maxRecDepth 100000 in
set_option maxHeartbeats 2000000 in
theorem above_any (a b : List Nat) (A B : Option Addr) (n c m d : Nat) (w : World) (hn : n = a.length) (hm : m = b.length) (ha : U64s w A a) (hb : U64s w B b) (hn1 : n ≤ 1000) (hm1 : m ≤ 1000) :
    Calls Try.prog 87 #[.slice A n c, .slice B m d] w fun e w' => e = .returned (.bool (aboveL a b)) ∧ w = w' := by
  have Hn := Lib.hid hn
  have Hm := Lib.hid hm
  obtain ⟨L, hL⟩ : ∃ L, L = max n m := ⟨_, rfl⟩
  have hLi : max (n : Int) (m : Int) = (L : Int) := by omega
  have hab : aboveL a b = aboveAt a b L := by unfold aboveL; rw [hL, hn, hm]
  have HAB := Lib.hid hab
  have hLb : L ≤ 1000 := by omega
  clear hab hn hm
  have hcase : (n < m ∧ L = m) ∨ (¬ n < m ∧ L = n) := by omega
  rcases hcase with ⟨hnm, hLe⟩ | ⟨hnm, hLe⟩
  all_goals
    have HLe := Lib.hid hLe
    clear hLe
    go_enter Try.func87, Try.ntmps87
    go_wp2_with fail
    go_loopw [5, 6, 7] (fun c5 _ _ wr => ∃ i : Nat, i ≤ 1000 ∧ c5 = .int .i64 ((i : Int) - 1) ∧ aboveAt a b i = aboveAt a b L ∧ wr = w) (fun c5 _ _ _ => (intOf c5 + 1).toNat)
    case atStart => exact ⟨L, hLb, by rw [HLe.out], rfl, rfl⟩
    case round =>
      obtain ⟨i, hi, rfl, hab, rfl⟩ := hrel
      have HA := Lib.hid hab
      clear hab
      by_cases h0 : i = 0
      · subst h0
        go_wp2_with fail
        go_ret
        exact ⟨by rw [HAB.out, ← HA.out]; rfl, rfl⟩
      · obtain ⟨j, rfl⟩ : ∃ j, i = j + 1 := ⟨i - 1, by omega⟩
        have hj1 : (((j + 1 : Nat) : Int) - 1) = (j : Int) := by omega
        rw [hj1]
        have hd : decide ((0 : Int) ≤ (j : Int)) = true := decide_eq_true (by omega)
        have h0j : (0 : Int) ≤ (j : Int) := by omega
        by_cases hjn : j < n
        · by_cases hjm : j < m
          · have hdA : decide ((j : Int) < (n : Int)) = true := decide_eq_true (by omega)
            have hdB : decide ((j : Int) < (m : Int)) = true := decide_eq_true (by omega)
            obtain ⟨ga, oa, hA, hga, ca⟩ := ha.at_ j (by have := Hn.out; omega)
            subst hA
            obtain ⟨X, hX⟩ : ∃ X, X = a.getD j 0 := ⟨_, rfl⟩
            rw [← hX] at ca
            obtain ⟨gb, ob, hBq, hgb, cb⟩ := hb.at_ j (by have := Hm.out; omega)
            subst hBq
            obtain ⟨Y, hY⟩ : ∃ Y, Y = b.getD j 0 := ⟨_, rfl⟩
            rw [← hY] at cb
            have hstep : aboveAt a b (j + 1) = if X ≠ Y then decide (Y < X) else aboveAt a b j := by rw [aboveAt, ← hX, ← hY]
            have HS := Lib.hid hstep
            clear hstep hX hY
            by_cases hxy : X = Y
            · have hne : ((X : Int) != (Y : Int)) = false := by rw [bne_eq_false_iff_eq]; omega
              go_wp2_with fail
              go_roundw
              case rel => exact ⟨j, by omega, by go_num, by rw [← HA.out, HS.out, if_neg (by omega)], trivial⟩
              case measure => simp [intOf]
            · have hne : ((X : Int) != (Y : Int)) = true := by rw [bne_iff_ne]; omega
              go_wp2_with fail
              go_ret
              exact ⟨by rw [HAB.out, ← HA.out, HS.out, if_pos (by omega)]; first | rfl | (congr 2; simp), rfl⟩
          · have hdA : decide ((j : Int) < (n : Int)) = true := decide_eq_true (by omega)
            have hdB : decide ((j : Int) < (m : Int)) = false := decide_eq_false (by omega)
            obtain ⟨ga, oa, hA, hga, ca⟩ := ha.at_ j (by have := Hn.out; omega)
            subst hA
            obtain ⟨X, hX⟩ : ∃ X, X = a.getD j 0 := ⟨_, rfl⟩
            rw [← hX] at ca
            have hY : 0 = b.getD j 0 := by rw [List.getD_eq_getElem?_getD, List.getElem?_eq_none (by have := Hm.out; omega)]; rfl
            have hstep : aboveAt a b (j + 1) = if X ≠ 0 then decide (0 < X) else aboveAt a b j := by rw [aboveAt, ← hX, ← hY]
            have HS := Lib.hid hstep
            clear hstep hX hY
            by_cases hxy : X = 0
            · have hne : ((X : Int) != (0 : Int)) = false := by rw [bne_eq_false_iff_eq]; omega
              go_wp2_with fail
              go_roundw
              case rel => exact ⟨j, by omega, by go_num, by rw [← HA.out, HS.out, if_neg (by omega)], trivial⟩
              case measure => simp [intOf]
            · have hne : ((X : Int) != (0 : Int)) = true := by rw [bne_iff_ne]; omega
              go_wp2_with fail
              go_ret
              exact ⟨by rw [HAB.out, ← HA.out, HS.out, if_pos (by omega)]; first | rfl | (congr 2; simp), rfl⟩
        · by_cases hjm : j < m
          · have hdA : decide ((j : Int) < (n : Int)) = false := decide_eq_false (by omega)
            have hdB : decide ((j : Int) < (m : Int)) = true := decide_eq_true (by omega)
            have hX : 0 = a.getD j 0 := by rw [List.getD_eq_getElem?_getD, List.getElem?_eq_none (by have := Hn.out; omega)]; rfl
            obtain ⟨gb, ob, hBq, hgb, cb⟩ := hb.at_ j (by have := Hm.out; omega)
            subst hBq
            obtain ⟨Y, hY⟩ : ∃ Y, Y = b.getD j 0 := ⟨_, rfl⟩
            rw [← hY] at cb
            have hstep : aboveAt a b (j + 1) = if 0 ≠ Y then decide (Y < 0) else aboveAt a b j := by rw [aboveAt, ← hX, ← hY]
            have HS := Lib.hid hstep
            clear hstep hX hY
            by_cases hxy : 0 = Y
            · have hne : ((0 : Int) != (Y : Int)) = false := by rw [bne_eq_false_iff_eq]; omega
              go_wp2_with fail
              go_roundw
              case rel => exact ⟨j, by omega, by go_num, by rw [← HA.out, HS.out, if_neg (by omega)], trivial⟩
              case measure => simp [intOf]
            · have hne : ((0 : Int) != (Y : Int)) = true := by rw [bne_iff_ne]; omega
              go_wp2_with fail
              go_ret
              exact ⟨by rw [HAB.out, ← HA.out, HS.out, if_pos (by omega)]; first | rfl | (congr 2; simp), rfl⟩
          · have hdA : decide ((j : Int) < (n : Int)) = false := decide_eq_false (by omega)
            have hdB : decide ((j : Int) < (m : Int)) = false := decide_eq_false (by omega)
            have hX : 0 = a.getD j 0 := by rw [List.getD_eq_getElem?_getD, List.getElem?_eq_none (by have := Hn.out; omega)]; rfl
            have hY : 0 = b.getD j 0 := by rw [List.getD_eq_getElem?_getD, List.getElem?_eq_none (by have := Hm.out; omega)]; rfl
            have hstep : aboveAt a b (j + 1) = if 0 ≠ 0 then decide (0 < 0) else aboveAt a b j := by rw [aboveAt, ← hX, ← hY]
            have HS := Lib.hid hstep
            clear hstep hX hY
            go_wp2_with fail
            go_roundw
            case rel => exact ⟨j, by omega, by go_num, by rw [← HA.out, HS.out, if_neg (by omega)], trivial⟩
            case measure => simp [intOf]
end Go.Proofs.Ytnlkjhhocehhaaa
