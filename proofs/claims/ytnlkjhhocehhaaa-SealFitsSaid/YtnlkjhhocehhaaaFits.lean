/- The contract of seal.Fits: a header fits just if it is the one that is made. -/
import Derived.Test.YtnlkjhhocehhaaaHeader
import Derived.Test.YtnlkjhhocehhaaaBytes
namespace Go.Proofs.Ytnlkjhhocehhaaa
set_option linter.unusedVariables false
open Go Go.RowKit Go.Proofs Sha
def diffN (a b : List UInt8) : Nat → UInt8
  | 0 => 0
  | i + 1 => diffN a b i ||| (a.getD i 0 ^^^ b.getD i 0)
theorem or_zero (x y : UInt8) : x ||| y = 0 ↔ x = 0 ∧ y = 0 := by
  constructor
  · intro h
    have h1 : x.toNat ||| y.toNat = 0 := by
      have := congrArg UInt8.toNat h
      rwa [UInt8.toNat_or] at this
    have h2 := Nat.or_eq_zero_iff.1 h1
    exact ⟨UInt8.toNat_inj.1 h2.1, UInt8.toNat_inj.1 h2.2⟩
  · rintro ⟨rfl, rfl⟩; rfl
theorem xor_zero_all : ∀ (x y : Fin 256), (UInt8.ofNat x.val ^^^ UInt8.ofNat y.val = 0) ↔ x = y := by decide +kernel
theorem xor_zero (x y : UInt8) : x ^^^ y = 0 ↔ x = y := by
  have h := xor_zero_all ⟨x.toNat, x.toNat_lt⟩ ⟨y.toNat, y.toNat_lt⟩
  simp only [UInt8.ofNat_toNat] at h
  rw [h]
  constructor
  · intro e; exact UInt8.toNat_inj.1 (Fin.mk.inj e)
  · rintro rfl; rfl
theorem diff_zero (a b : List UInt8) : ∀ n, diffN a b n = 0 ↔ ∀ j, j < n → a.getD j 0 = b.getD j 0
  | 0 => by simp [diffN]
  | n + 1 => by
    rw [diffN, or_zero, diff_zero a b n, xor_zero]
    constructor
    · rintro ⟨h1, h2⟩ j hj
      rcases Nat.lt_succ_iff_lt_or_eq.1 hj with h | rfl
      · exact h1 j h
      · exact h2
    · intro h; exact ⟨fun j hj => h j (by omega), h n (by omega)⟩
theorem diff_eq (a b : List UInt8) (h : a.length = b.length) : diffN a b a.length = 0 ↔ a = b := by
  rw [diff_zero]
  constructor
  · intro hh
    refine List.ext_getElem h (fun i h1 h2 => ?_)
    have := hh i h1
    simpa [List.getD_eq_getElem?_getD, h1, h2] using this
  · rintro rfl _ _; rfl
theorem or_byte (x m : UInt8) : bits .or .u8 (n8 x) (n8 m) = n8 (x ||| m) := by
  show IntKind.u8.wrap ((BitVec.ofInt 8 (x.toNat : Int) ||| BitVec.ofInt 8 (m.toNat : Int)).toNat : Int) = _
  rw [BitVec.toNat_or, BitVec.ofInt_natCast, BitVec.ofInt_natCast, BitVec.toNat_ofNat, BitVec.toNat_ofNat, Nat.mod_eq_of_lt x.toNat_lt, Nat.mod_eq_of_lt m.toNat_lt]
  unfold n8
  rw [UInt8.toNat_or]
  have := (x ||| m).toNat_lt
  rw [UInt8.toNat_or] at this
  simp [IntKind.wrap, IntKind.bits, IntKind.signed]; omega
set_option maxRecDepth 100000 in
set_option maxHeartbeats 2000000 in
theorem fits_any (k x : List UInt8) (A B : Option Addr) (n c m d : Nat) (s : ByteArray) (w : World) (hn : n = k.length) (hm : m = x.length) (hk : Bytes w A k) (hx : Bytes w B x) (hk1 : k.length ≤ 400000000) (hx1 : x.length ≤ 400000000) (hsm : s.size ≤ maxLen) :
    Calls Try.prog 43 #[.slice A n c, .slice B m d, .string s] w fun e w' => e = .returned (.bool (decide (s.data.toList = headerOf k x))) ∧ Below w.heap.size w w' := by
  have HK := Lib.hid (header_any k x A B n c m d w hn hm hk hx hk1 hx1)
  clear hn hm
  obtain ⟨h, hh⟩ : ∃ h, h = headerOf k x := ⟨_, rfl⟩
  have hhl : h.length = 71 := by rw [hh]; exact length_headerOf _ _
  rw [← hh] at HK ⊢
  obtain ⟨S, hS⟩ : ∃ S : ByteArray, S = ⟨h.toArray⟩ := ⟨_, rfl⟩
  have hSs : S.size = 71 := by rw [hS]; show h.toArray.size = 71; simp [hhl]
  have hSl : S.data.toList = h := by rw [hS]
  rw [← hS] at HK
  obtain ⟨t, ht⟩ : ∃ t, t = s.data.toList := ⟨_, rfl⟩
  have hts : t.length = s.size := by rw [ht]; exact Array.length_toList
  rw [← ht]
  have HT := Lib.hid ht
  have HSl := Lib.hid hSl
  have Hhl := Lib.hid hhl
  have Hts := Lib.hid hts
  clear hh hhl hS hSl ht hts
  have hs63 : (s.size : Int) ≤ 9223372036854775807 := by unfold maxLen at hsm; omega
  by_cases h71 : s.size = 71
  · have hne : ((s.size : Int) != 71) = false := by rw [bne_eq_false_iff_eq]; omega
    go_enter Try.func43, Try.ntmps43
    go_wp2_with (first
      | (go_at_call 37
         refine HK.out.mono ?_
         rintro e w1 ⟨rfl, hb1⟩)
      | fail)
    go_loopw [8, 9, 20] (fun c8 _ c20 wr => ∃ i : Nat, i ≤ 71 ∧ c20 = .int .i64 i ∧ c8 = .int .u8 (n8 (diffN h t i)) ∧ Below w.heap.size w wr) (fun _ _ c20 _ => 71 - (intOf c20).toNat)
    case atStart => exact ⟨0, by omega, rfl, rfl, hb1⟩
    case round =>
      obtain ⟨i, hi, rfl, rfl, hB⟩ := hrel
      obtain ⟨D, hD⟩ : ∃ D, D = diffN h t i := ⟨_, rfl⟩
      rw [← hD]
      have HD := Lib.hid hD
      clear hD
      by_cases hlt : i < 71
      · have hd : decide ((i : Int) < 71) = true := decide_eq_true (by omega)
        have hi1 := index_str S h HSl.out i (by rw [Hhl.out]; exact hlt)
        have hi2 := index_str s t HT.out.symm i (by rw [Hts.out]; omega)
        obtain ⟨p, hp⟩ : ∃ p, p = h.getD i 0 := ⟨_, rfl⟩
        obtain ⟨q, hq⟩ : ∃ q, q = t.getD i 0 := ⟨_, rfl⟩
        rw [← hp] at hi1
        rw [← hq] at hi2
        have hx1 := xor_byte p q
        have hx2 := or_byte D (p ^^^ q)
        have HP := Lib.hid hp
        have HQ := Lib.hid hq
        clear hp hq
        obtain ⟨wo, rfl⟩ : ∃ wo : World, wo = wr := ⟨_, rfl⟩
        go_wp2_with fail
        refine wp_region_quiet_below (by kernel_rfl) (by kernel_rfl) ?_
        repeat (go_big_quiet_step (fail))
        refine wpQuiet_nil ?_
        intro w2 hw2
        have hb2 := Re.below hw2
        clear hw2
        go_wp2_with fail
        go_roundw
        case rel => exact ⟨i + 1, by omega, by go_num, by rw [diffN, ← HD.out, ← HP.out, ← HQ.out], hB.trans (hb2.mono hB.size)⟩
        case measure => simp [intOf]; omega
      · have hd : decide ((i : Int) < 71) = false := decide_eq_false (by omega)
        obtain rfl : i = 71 := by omega
        have hz : (n8 D == 0) = decide (t = h) := by
          have h0 : (0 : Int) = n8 0 := rfl
          rw [h0, n8_beq, Bool.eq_iff_iff, beq_iff_eq, decide_eq_true_iff, HD.out]
          have := diff_eq h t (by rw [Hhl.out, Hts.out, h71])
          rw [Hhl.out] at this
          rw [this]
          exact eq_comm
        go_wp2_with fail
        go_ret
        exact ⟨rfl, hB⟩
  · have hne : ((s.size : Int) != 71) = true := by rw [bne_iff_ne]; omega
    have hdne : decide (t = h) = false := decide_eq_false (fun e => h71 (by rw [← Hts.out, e, Hhl.out]))
    go_enter Try.func43, Try.ntmps43
    go_wp2_with (first
      | (go_at_call 37
         refine HK.out.mono ?_
         rintro e w1 ⟨rfl, hb1⟩)
      | fail)
    go_ret
    exact ⟨by rw [hdne]; rfl, hb1⟩
end Go.Proofs.Ytnlkjhhocehhaaa
