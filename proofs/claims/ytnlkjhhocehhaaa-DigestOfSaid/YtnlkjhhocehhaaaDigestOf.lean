/- The law DigestOf: the digest of any bytes is what the document says, with all its words reckoned from primes. For every input. -/
import Derived.Test.YtnlkjhhocehhaaaWords
import Derived.Test.YtnlkjhhocehhaaaOf
import Derived.Test.YtnlkjhhocehhaaaEq25
namespace Go.Proofs.Ytnlkjhhocehhaaa.digestOf
open Go Go.RowKit Go.Proofs Go.Proofs.Ytnlkjhhocehhaaa Sha
set_option linter.unusedVariables false
set_option maxRecDepth 100000 in
set_option maxHeartbeats 1000000 in
theorem walk (a0 : Option Addr) (len0 cap0 : Nat) (z0 : List Int) (w : World) (w0 : IsRow .u8 w a0 len0 cap0 z0) :
    Calls Try.prog 3 #[.slice a0 len0 cap0] w fun e w' => e = .returned (.bool true) ∧ Below w.heap.size w w' := by
  obtain ⟨l, hA⟩ := arg_of w0
  clear w0
  obtain ⟨n, hn⟩ : ∃ n, n = min len0 300 := ⟨_, rfl⟩
  obtain ⟨x, hx⟩ : ∃ x, x = l.take n := ⟨_, rfl⟩
  have hxl : n = x.length := by rw [hx, List.length_take, ← hA.len]; omega
  have hx300 : x.length ≤ 300 := by omega
  have hbx : Bytes w a0 x := by rw [hx]; exact hA.bytes.take _
  have hle := hA.le
  have hcap := hA.cap
  have Hn := Lib.hid hn
  have Hxl := Lib.hid hxl
  have hnc : n ≤ cap0 := by omega
  have hn300 : n ≤ 300 := by omega
  clear hx hA hn hxl
  have heq := fun w => eq25 (sha x) (sha x) (length_sha x) (length_sha x) w
  simp only [decide_true] at heq
  go_enter Try.func3, Try.ntmps3
  go_wp2_with (first
    | (go_at_call 20
       refine (lives2 w).mono ?_
       rintro e w1 ⟨rfl, hb1⟩
       have HE := Lib.hid (early3 a0 len0 cap0 n w1 hle hcap Hn.out))
    | (go_at_call 21
       refine HE.out.mono ?_
       rintro e w1' ⟨rfl, rfl⟩
       have hB1 := hbx.keep hb1)
    | (go_at_call 22
       refine (words_any _).mono ?_
       rintro e w2 ⟨rfl, hb2⟩
       have hB2 := hB1.keep hb2
       have HK := Lib.hid (of_any x a0 n cap0 w2 Hxl.out hB2 (by omega)))
    | (go_at_call 23
       refine HK.out.mono ?_
       rintro e w3 ⟨rfl, hb3⟩
       have hB3 := hB2.keep hb3
       have HR := Lib.hid (rof_any x a0 n cap0 w3 Hxl.out hB3 (by omega)))
    | (go_at_call 24
       refine HR.out.mono ?_
       rintro e w4 ⟨rfl, hb4⟩)
    | fail)
  go_ret
  have hF : Fr nob w w4 := (((Fr.of_below hb1 nob).trans (Fr.of_below hb2 nob)).trans (Fr.of_below hb3 nob)).trans (Fr.of_below hb4 nob)
  exact ⟨rfl, hF.below_nob⟩
end Go.Proofs.Ytnlkjhhocehhaaa.digestOf
