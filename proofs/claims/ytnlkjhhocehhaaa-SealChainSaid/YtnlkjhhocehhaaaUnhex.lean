/- Signs that are read: the plain law. No program in sight. -/
import Derived.Test.YtnlkjhhocehhaaaHex
namespace Go.Proofs.Ytnlkjhhocehhaaa
set_option linter.unusedVariables false
open Go Go.Proofs
def ix (c : UInt8) : Int := Lib.indexByte signs c
def comb (a b : UInt8) : UInt8 := UInt8.ofNat (16 * (ix a).toNat + (ix b).toNat)
def unhex : List UInt8 → Option (List UInt8)
  | [] => some []
  | [_] => none
  | a :: b :: r => if ix a < 0 ∨ ix b < 0 then none else (unhex r).map (comb a b :: ·)
theorem ix_all : ∀ n : Fin 256, -1 ≤ ix (UInt8.ofNat n.val) ∧ ix (UInt8.ofNat n.val) < 16 ∧ (0 ≤ ix (UInt8.ofNat n.val) → signs.getD (ix (UInt8.ofNat n.val)).toNat 0 = UInt8.ofNat n.val) := by decide +kernel
theorem ix_bd (c : UInt8) : -1 ≤ ix c ∧ ix c < 16 := by
  have := ix_all ⟨c.toNat, u8_lt c⟩
  simp at this
  exact ⟨this.1, this.2.1⟩
theorem ix_sign (c : UInt8) (h : 0 ≤ ix c) : signs.getD (ix c).toNat 0 = c := by
  have := ix_all ⟨c.toNat, u8_lt c⟩
  simp only [UInt8.ofNat_toNat] at this
  exact this.2.2 h
theorem ix_of_sign : ∀ n : Fin 16, ix (signs.getD n.val 0) = (n.val : Int) := by decide +kernel
theorem comb_val (a b : UInt8) (ha : 0 ≤ ix a) (hb : 0 ≤ ix b) : (comb a b).toNat = 16 * (ix a).toNat + (ix b).toNat := by
  have h1 := ix_bd a
  have h2 := ix_bd b
  unfold comb
  rw [UInt8.toNat_ofNat_of_lt' (by show _ < 256; omega)]
theorem hi_comb (a b : UInt8) (ha : 0 ≤ ix a) (hb : 0 ≤ ix b) : hi4 (comb a b) = a := by
  have h1 := ix_bd a
  have h2 := ix_bd b
  unfold hi4
  rw [comb_val a b ha hb, show (16 * (ix a).toNat + (ix b).toNat) / 16 = (ix a).toNat by omega, ix_sign a ha]
theorem lo_comb (a b : UInt8) (ha : 0 ≤ ix a) (hb : 0 ≤ ix b) : lo4 (comb a b) = b := by
  have h1 := ix_bd a
  have h2 := ix_bd b
  unfold lo4
  rw [comb_val a b ha hb, show (16 * (ix a).toNat + (ix b).toNat) % 16 = (ix b).toNat by omega, ix_sign b hb]
theorem ix_hi (b : UInt8) : ix (hi4 b) = ((b.toNat / 16 : Nat) : Int) := ix_of_sign ⟨b.toNat / 16, by have := u8_lt b; omega⟩
theorem ix_lo (b : UInt8) : ix (lo4 b) = ((b.toNat % 16 : Nat) : Int) := ix_of_sign ⟨b.toNat % 16, by have := u8_lt b; omega⟩
theorem comb_hex (b : UInt8) : comb (hi4 b) (lo4 b) = b := by
  unfold comb
  rw [ix_hi, ix_lo, Int.toNat_natCast, Int.toNat_natCast, show 16 * (b.toNat / 16) + b.toNat % 16 = b.toNat by omega, UInt8.ofNat_toNat]
theorem unhex_hex : ∀ l : List UInt8, unhex (hexOf l) = some l
  | [] => rfl
  | b :: l => by
    have ih := unhex_hex l
    show unhex (hi4 b :: lo4 b :: hexOf l) = _
    rw [unhex, if_neg (by rw [ix_hi, ix_lo]; omega), ih, comb_hex]; rfl
theorem hex_unhex : ∀ (s b : List UInt8), unhex s = some b → hexOf b = s
  | [], b, h => by simp [unhex] at h; subst h; rfl
  | [_], b, h => by simp [unhex] at h
  | x :: y :: r, b, h => by
    rw [unhex] at h
    split at h
    · cases h
    · next hn =>
      obtain ⟨b', hb, rfl⟩ := Option.map_eq_some_iff.1 h
      have := hex_unhex r b' hb
      show hi4 (comb x y) :: lo4 (comb x y) :: hexOf b' = _
      rw [hi_comb x y (by omega) (by omega), lo_comb x y (by omega) (by omega), this]
theorem unhex_even (s b : List UInt8) (h : unhex s = some b) : s.length = 2 * b.length := by
  have := hex_unhex s b h
  rw [← this, length_hexOf]
theorem unhex_odd : ∀ s : List UInt8, s.length % 2 = 1 → unhex s = none
  | [], h => by simp at h
  | [_], h => rfl
  | x :: y :: r, h => by
    rw [unhex, unhex_odd r (by simp at h; omega)]; simp
theorem unhex_sign (s b : List UInt8) (h : unhex s = some b) : ∀ c ∈ s, 0 ≤ ix c := by
  rw [← hex_unhex s b h]
  intro c hc
  simp only [hexOf, List.mem_flatMap, List.mem_cons, List.not_mem_nil, or_false] at hc
  obtain ⟨a, _, rfl | rfl⟩ := hc
  · rw [ix_hi]; omega
  · rw [ix_lo]; omega
theorem unhex_append : ∀ (k : Nat) (x y : List UInt8), x.length = 2 * k → unhex (x ++ y) = (unhex x).bind fun a => (unhex y).map (a ++ ·)
  | 0, x, y, h => by
    obtain rfl : x = [] := List.eq_nil_of_length_eq_zero (by omega)
    simp [unhex]
  | k + 1, x, y, h => by
    match x, h with
    | a :: b :: r, h =>
      have ih := unhex_append k r y (by simp at h; omega)
      show unhex (a :: b :: (r ++ y)) = _
      rw [unhex, unhex]
      split
      · rfl
      · rw [ih]; cases unhex r <;> cases unhex y <;> rfl
    | [_], h => simp at h; omega
    | [], h => simp at h
/-- One round of the reading: the next two signs are signs, or the whole is none's. -/
theorem unhex_step (s : List UInt8) (k : Nat) (l : List UInt8) (hk : 2 * k + 2 ≤ s.length) (h : unhex (s.take (2 * k)) = some l) :
    (0 ≤ ix (s.getD (2 * k) 0) → 0 ≤ ix (s.getD (2 * k + 1) 0) → unhex (s.take (2 * (k + 1))) = some (l ++ [comb (s.getD (2 * k) 0) (s.getD (2 * k + 1) 0)])) ∧
    ((ix (s.getD (2 * k) 0) < 0 ∨ ix (s.getD (2 * k + 1) 0) < 0) → unhex s = none) := by
  have e : s.drop (2 * k) = s.getD (2 * k) 0 :: s.getD (2 * k + 1) 0 :: s.drop (2 * k + 2) := by
    rw [List.drop_eq_getElem_cons (by omega), List.drop_eq_getElem_cons (by omega)]
    simp [show 2 * k < s.length by omega, show 2 * k + 1 < s.length by omega]
  have hl : (s.take (2 * k)).length = 2 * k := by rw [List.length_take]; omega
  constructor
  · intro h1 h2
    rw [show 2 * (k + 1) = 2 * k + 2 by omega, List.take_add, unhex_append k _ _ hl, h, e]
    generalize s.getD (2 * k) 0 = p at *
    generalize s.getD (2 * k + 1) 0 = q at *
    have hn : ¬ (ix p < 0 ∨ ix q < 0) := by omega
    simp only [List.take_succ_cons, List.take_zero, Option.bind_some, unhex, if_neg hn, Option.map_some]
  · intro h1
    rw [← List.take_append_drop (2 * k) s, unhex_append k _ _ hl, h, e, unhex, if_pos h1]; rfl
end Go.Proofs.Ytnlkjhhocehhaaa
