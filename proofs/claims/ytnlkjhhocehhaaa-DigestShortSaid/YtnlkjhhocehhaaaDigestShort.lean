/- The law DigestShort: the first of a digest is its first eight bytes; a digest that is not there is that of no bytes. For every input. -/
import Derived.Test.YtnlkjhhocehhaaaFrame
import Derived.Test.YtnlkjhhocehhaaaShort
import Derived.Test.YtnlkjhhocehhaaaEq25
namespace Go.Proofs.Ytnlkjhhocehhaaa.digestShort
open Go Go.RowKit Go.Proofs Go.Proofs.Ytnlkjhhocehhaaa Sha
set_option linter.unusedVariables false
theorem low8 (m : Nat) (b : UInt8) (h : m < 72057594037927936) : (((256 * m + b.toNat : Nat) : Int) % 256 != n8 b) = false := by
  unfold n8; have := b.toNat_lt; simp; omega
set_option maxRecDepth 100000 in
set_option maxHeartbeats 1000000 in
theorem walk (a0 : Option Addr) (len0 cap0 : Nat) (z0 : List Int) (w : World) (w0 : IsRow .u8 w a0 len0 cap0 z0) :
    Calls Try.prog 5 #[.slice a0 len0 cap0] w fun e w' => e = .returned (.bool true) ∧ Below w.heap.size w w' := by
  obtain ⟨l, hA⟩ := arg_of w0
  clear w0
  obtain ⟨n, hn⟩ : ∃ n, n = min len0 300 := ⟨_, rfl⟩
  obtain ⟨x, hx⟩ : ∃ x, x = l.take n := ⟨_, rfl⟩
  have hxl : n = x.length := by rw [hx, List.length_take, ← hA.len]; omega
  have hx300 : x.length ≤ 300 := by omega
  have hbx : Bytes w a0 x := by rw [hx]; exact hA.bytes.take _
  have hle := hA.le
  have hcap := hA.cap
  have Hn := Lib.hid hn
  have Hxl := Lib.hid hxl
  have hnc : n ≤ cap0 := by omega
  have hn300 : n ≤ 300 := by omega
  clear hx hA hn hxl
  go_enter Try.func5, Try.ntmps5
  go_wp2_with (first
    | (go_at_call 20
       refine (lives2 w).mono ?_
       rintro e w1 ⟨rfl, hb1⟩
       have HE := Lib.hid (early3 a0 len0 cap0 n w1 hle hcap Hn.out))
    | (go_at_call 21
       refine HE.out.mono ?_
       rintro e w1' ⟨rfl, rfl⟩
       have hB1 := hbx.keep hb1
       have HK := Lib.hid (of_any x a0 n cap0 w1 Hxl.out hB1 (by omega)))
    | (go_at_call 23
       refine HK.out.mono ?_
       rintro e w2 ⟨rfl, hb2⟩)
    | (with_reducible refine wpList_alloc_run rfl 25 rfl zeroOut alloc25 ?_)
    | (refine wpList_store_blk rfl 25 (.tmp 3) (.tmp 12) rfl w2.heap.size 25 zeroOut (shaV x) rfl rfl (Blk.new w2 25 zeroOut) (zero_shaV _) (info_shaV _) (one_shaV _) ?_
       intro w3 hb3 hf3
       have hF2 : Fr nob w w2 := (Fr.of_below hb1 nob).trans (Fr.of_below hb2 nob)
       have hF3 : Fr nob w w3 := (hF2.alloc (.cells zeroOut 25)).then hf3 (fun i hi => Or.inr (by have := hF2.size; unfold one at hi; omega))
       have HS := Lib.hid (short_any x a0 n cap0 w3 Hxl.out (hbx.keep hF3.below_nob) (by omega)))
    | (go_at_call 28
       refine HS.out.mono ?_
       rintro e w4 ⟨rfl, hb4⟩
       have hd4 := hb3.below hb4 hb3.lt)
    | fail)
  have hF4 : Below w.heap.size w w4 := (hF3.trans (Fr.of_below hb4 nob)).below_nob
  have hL := length_sha x
  go_loopw [4, 5] (fun c4 c5 wr => ∃ k : Nat, k ≤ 8 ∧ c4 = .int .u64 (bigOf ((sha x).take k) : Nat) ∧ c5 = .int .i64 ((k : Int) - 1) ∧ wr = w4) (fun _ c5 _ => (intOf c5 + 1).toNat)
  case atStart => exact ⟨8, by omega, rfl, rfl, rfl⟩
  case round =>
    obtain ⟨k, hk, rfl, rfl, rfl⟩ := hrel
    by_cases h0 : k = 0
    · subst h0
      have HN := Lib.hid (now_nil wr)
      go_wp2_with (first
        | (go_at_call 26
           refine (add_none a0 n cap0 wr).mono ?_
           rintro e w5' ⟨rfl, rfl⟩)
        | (go_at_call 27
           refine HN.out.mono ?_
           rintro e w6 ⟨rfl, hb6⟩)
        | (go_at_call 23
           refine (of_any [] none 0 0 w6 rfl (Bytes.nil _ _) (by simp)).mono ?_
           rintro e w7 ⟨rfl, hb7⟩
           have he := eq25 (sha []) (sha []) (length_sha _) (length_sha _) w7
           simp only [decide_true] at he)
        | (simp only [he])
        | fail)
      go_ret
      exact ⟨rfl, hF4.trans ((hb6.trans (hb7.mono hb6.size)).mono hF4.size)⟩
    · obtain ⟨k, rfl⟩ : ∃ j, k = j + 1 := ⟨k - 1, by omega⟩
      clear h0
      have e1 : wr.cell? ⟨w2.heap.size, k, none⟩ = some (.int .u8 (n8 ((sha x).getD k 0))) := by
        rw [hd4.cell]; simp [shaV, byteVals, hL, show k < 32 by omega]; rfl
      obtain ⟨b, hb⟩ : ∃ b, b = (sha x).getD k 0 := ⟨_, rfl⟩
      have ht := take_bigOf (sha x) k (by omega)
      rw [← hb] at e1 ht
      rw [ht]
      clear hb ht
      obtain ⟨m, hm⟩ : ∃ m, m = bigOf ((sha x).take k) := ⟨_, rfl⟩
      rw [← hm]
      have Hm := Lib.hid hm
      have hmb : m < 72057594037927936 := by
        have h1 := bigOf_lt ((sha x).take k)
        have h2 : 256 ^ ((sha x).take k).length ≤ 256 ^ 7 := Nat.pow_le_pow_right (by omega) (by rw [List.length_take]; omega)
        rw [hm]
        exact Nat.lt_of_lt_of_le h1 h2
      clear hm
      have h8 := b.toNat_lt
      have hlo := low8 m b hmb
      go_wp2_with fail
      go_roundw
      case rel => exact ⟨k, by omega, by rw [← Hm.out]; congr 1; omega, rfl, trivial⟩
      case measure => simp [intOf]
end Go.Proofs.Ytnlkjhhocehhaaa.digestShort
