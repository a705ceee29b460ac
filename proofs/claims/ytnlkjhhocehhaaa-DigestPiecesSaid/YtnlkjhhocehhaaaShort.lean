/- The contract of digest.Short: the first eight bytes of the digest as a number. -/
import Derived.Test.YtnlkjhhocehhaaaLaw2a
namespace Go.Proofs.Ytnlkjhhocehhaaa
set_option linter.unusedVariables false
open Go Go.RowKit Go.Proofs Sha
def bigOf (l : List UInt8) : Nat := l.foldl (fun n b => 256 * n + b.toNat) 0
theorem bigOf_append (l : List UInt8) (b : UInt8) : bigOf (l ++ [b]) = 256 * bigOf l + b.toNat := by simp [bigOf]
theorem bigOf_lt (l : List UInt8) : bigOf l < 256 ^ l.length := by
  have : ∀ (l : List UInt8) (a : Nat), l.foldl (fun n b => 256 * n + b.toNat) a < (a + 1) * 256 ^ l.length := by
    intro l
    induction l with
    | nil => intro a; simp
    | cons b l ih =>
      intro a
      have h1 := ih (256 * a + b.toNat)
      have h2 : (256 * a + b.toNat + 1) * 256 ^ l.length ≤ ((a + 1) * 256) * 256 ^ l.length := Nat.mul_le_mul_right _ (by have := b.toNat_lt; omega)
      rw [List.foldl_cons, List.length_cons, Nat.pow_succ]
      calc _ < _ := h1
        _ ≤ _ := h2
        _ = _ := by rw [Nat.mul_assoc, Nat.mul_comm 256]
  have := this l 0
  simpa [bigOf] using this
theorem wrap_u64 (n : Int) : IntKind.u64.wrap n = n % 18446744073709551616 := by
  simp [IntKind.wrap, IntKind.bits, IntKind.signed]
theorem u64_push (m : Nat) (b : UInt8) (hm : m < 72057594037927936) : bits .or .u64 (IntKind.u64.wrap ((m : Int) * 256)) (IntKind.u64.wrap (n8 b)) = ((256 * m + b.toNat : Nat) : Int) := by
  have hb := b.toNat_lt
  rw [wrap_u64, wrap_u64, show (m : Int) * 256 % 18446744073709551616 = ((m * 256 : Nat) : Int) by omega, show n8 b % 18446744073709551616 = ((b.toNat : Nat) : Int) by unfold n8; omega]
  show IntKind.u64.wrap ((BitVec.ofInt 64 ((m * 256 : Nat) : Int) ||| BitVec.ofInt 64 (b.toNat : Int)).toNat : Int) = _
  rw [BitVec.toNat_or, BitVec.ofInt_natCast, BitVec.ofInt_natCast, BitVec.toNat_ofNat, BitVec.toNat_ofNat, Nat.mod_eq_of_lt (by omega), Nat.mod_eq_of_lt (by omega),
    show m * 256 = m <<< 8 by rw [Nat.shiftLeft_eq], ← Nat.shiftLeft_add_eq_or_of_lt (by omega), Nat.shiftLeft_eq, wrap_u64]
  omega
theorem take_bigOf (l : List UInt8) (k : Nat) (h : k < l.length) : bigOf (l.take (k + 1)) = 256 * bigOf (l.take k) + (l.getD k 0).toNat := by
  rw [List.take_succ_eq_append_getElem h, bigOf_append]; simp [h]
set_option maxRecDepth 100000 in
theorem short_any (x : List UInt8) (A : Option Addr) (n c : Nat) (w : World) (hn : n = x.length) (hx : Bytes w A x) (hl : x.length ≤ 500000000) :
    Calls Try.prog 28 #[.slice A n c] w fun e w' => e = .returned (.int .u64 (bigOf ((sha x).take 8) : Nat)) ∧ Below w.heap.size w w' := by
  have HK := Lib.hid (of_any x A n c w hn hx hl)
  clear hn
  go_enter Try.func28, Try.ntmps28
  go_wp2_with (first
    | (go_at_call 23
       refine HK.out.mono ?_
       rintro e w1 ⟨rfl, hb1⟩)
    | (with_reducible refine wpList_alloc_run rfl 25 rfl zeroOut alloc25 ?_)
    | (refine wpList_store_blk rfl 25 (.tmp 4) (.tmp 8) rfl w1.heap.size 25 zeroOut (shaV x) rfl rfl (Blk.new w1 25 zeroOut) (zero_shaV _) (info_shaV _) (one_shaV _) ?_; intro w2 hb2 hf2)
    | fail)
  have hF1 : Fr nob w w1 := (Fr.of_below hb1 nob)
  have hF2 : Fr nob w w2 := (hF1.alloc (.cells zeroOut 25)).then hf2 (fun i hi => Or.inr (by have := hF1.size; unfold one at hi; omega))
  go_loopw [3, 11] (fun c3 c11 wr => ∃ k : Nat, k ≤ 8 ∧ c3 = .int .u64 (bigOf ((sha x).take k) : Nat) ∧ c11 = .int .i64 k ∧ wr = w2) (fun _ c11 _ => 8 - (intOf c11).toNat)
  case atStart => exact ⟨0, by omega, rfl, rfl, rfl⟩
  case round =>
    obtain ⟨k, hk, rfl, rfl, rfl⟩ := hrel
    by_cases hlt : k < 8
    · have hL := length_sha x
      have e1 : wr.cell? ⟨w1.heap.size, k, none⟩ = some (.int .u8 (n8 ((sha x).getD k 0))) := by
        rw [hb2.cell]; simp [shaV, byteVals, hL, show k < 32 by omega]; rfl
      obtain ⟨b, hb⟩ : ∃ b, b = (sha x).getD k 0 := ⟨_, rfl⟩
      rw [← hb] at e1
      have Hb := Lib.hid hb
      clear hb
      obtain ⟨m, hm⟩ : ∃ m, m = bigOf ((sha x).take k) := ⟨_, rfl⟩
      rw [← hm]
      have Hm := Lib.hid hm
      clear hm
      have hmb : m < 72057594037927936 := by
        have h1 := bigOf_lt ((sha x).take k)
        have h2 : 256 ^ ((sha x).take k).length ≤ 256 ^ 7 := Nat.pow_le_pow_right (by omega) (by rw [List.length_take]; omega)
        rw [Hm.out]
        exact Nat.lt_of_lt_of_le h1 h2
      have hp := u64_push m b hmb
      rw [show IntKind.u64.wrap ((m : Int) * 256) = (m : Int) * 256 by rw [wrap_u64]; omega] at hp
      go_wp2_with fail
      go_roundw
      case rel =>
        refine ⟨k + 1, by omega, ?_, by go_num, trivial⟩
        rw [take_bigOf _ _ (by omega), ← Hb.out, ← Hm.out]; simp
      case measure => simp [intOf]; omega
    · obtain rfl : k = 8 := by omega
      go_wp2_with fail
      go_ret
      exact ⟨rfl, hF2.below_nob⟩
theorem add_none (A : Option Addr) (n c : Nat) (w : World) : Calls Try.prog 26 #[.pointer none, .slice A n c] w fun e w' => e = .returned (.int .i64 0) ∧ w' = w := by
  go_enter Try.func26, Try.ntmps26
  go_wp2_with fail
  go_ret
  exact ⟨rfl, rfl⟩
end Go.Proofs.Ytnlkjhhocehhaaa
