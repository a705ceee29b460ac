/- The law DigestOnly: what is read of signs is written as just these. For every input. -/
import Derived.Test.YtnlkjhhocehhaaaLaw2a
import Derived.Test.YtnlkjhhocehhaaaBytes
namespace Go.Proofs.Ytnlkjhhocehhaaa
theorem rem_u64 (z : Int) (m : Nat) : ∃ k : Nat, k ≤ m ∧ (IntKind.u64.wrap z).tmod ((m : Int) + 1) = k := by
  have h0 : 0 ≤ IntKind.u64.wrap z := by simp [IntKind.wrap, IntKind.bits, IntKind.signed]; omega
  refine ⟨((IntKind.u64.wrap z).tmod ((m : Int) + 1)).toNat, ?_, ?_⟩
  all_goals
    rw [Int.tmod_eq_emod_of_nonneg h0]
    have h1 := Int.emod_lt_of_pos (IntKind.u64.wrap z) (show (0 : Int) < (m : Int) + 1 by omega)
    have h2 := Int.emod_nonneg (IntKind.u64.wrap z) (show (m : Int) + 1 ≠ 0 by omega)
    omega
end Go.Proofs.Ytnlkjhhocehhaaa
namespace Go.Proofs.Ytnlkjhhocehhaaa.digestOnly
open Go Go.RowKit Go.Proofs Go.Proofs.Ytnlkjhhocehhaaa Sha
set_option linter.unusedVariables false
set_option maxRecDepth 100000 in
set_option maxHeartbeats 1000000 in
theorem walk (a0 : ByteArray) (a1 : Int) (w0 : a0.size ≤ maxLen) (w1 : (Lit.int .i64 a1).wf = true) (w : World) :
    Calls Try.prog 7 #[.string a0, .int .i64 a1] w fun e w' => e = .returned (.bool true) ∧ Below w.heap.size w w' := by
  obtain ⟨n, hn⟩ : ∃ n, n = min a0.size 300 := ⟨_, rfl⟩
  obtain ⟨t, ht⟩ : ∃ t, t = a0.extract 0 n := ⟨_, rfl⟩
  have htn : t.size = n := by rw [ht, ByteArray.size_extract]; omega
  have hn300 : n ≤ 300 := by omega
  go_enter Try.func7, Try.ntmps7
  go_wp2_with (first
    | (go_at_call 20
       refine (lives2 w).mono ?_
       rintro e w1 ⟨rfl, hb1⟩)
    | fail)
  have hte : a0.extract 0 (min (a0.size : Int) 300).toNat = t := by
    rw [ht, hn]; congr 1; omega
  rw [hte]
  obtain ⟨x, hx⟩ : ∃ x, t.data.toList = x := ⟨_, rfl⟩
  have hxn : x.length = n := by rw [← hx, ← htn]; exact Array.length_toList
  clear hte ht hn w0
  have Hx := Lib.hid hx
  clear hx
  refine (bytes_any t x w1 Hx.out (by omega)).mono ?_
  rintro e w2 ⟨hb2, hans⟩
  have hB2 : Below w.heap.size w w2 := hb1.trans (hb2.mono hb1.size)
  rcases hu : unhex x with _ | b
  · rw [hu] at hans
    obtain rfl := hans
    go_wp2_with fail
    go_ret
    exact ⟨rfl, hB2⟩
  · rw [hu] at hans
    obtain ⟨v, rfl, hown, hrow⟩ := hans
    have h1 : unhex (x ++ [48]) = none := unhex_odd _ (by have := unhex_even x b hu; rw [List.length_append]; simp; omega)
    obtain ⟨A, cap, rfl, hc1, hc2⟩ := hown.shape
    obtain ⟨k, hk, hrem⟩ := rem_u64 a1 n
    have hx2 : unhex (x.take k ++ [71, 48] ++ x.drop k) = none := by
      rcases hh : unhex (x.take k ++ [71, 48] ++ x.drop k) with _ | c
      · rfl
      · exact absurd (unhex_sign _ c hh 71 (by simp)) (by decide)
    have hbx : b.length ≤ 150 := by have := unhex_even x b hu; omega
    have h2b : 2 * (b.length : Int) = (n : Int) := by have := unhex_even x b hu; omega
    have hhex : (⟨(hexOf b).toArray⟩ : ByteArray) = t := by rw [hex_unhex x b hu, ← Hx.out]
    have hby := (Bytes.of_own hown).1
    have Hu := Lib.hid hu
    have H1 := Lib.hid h1
    have H2 := Lib.hid hx2
    have Hhex := Lib.hid hhex
    clear hu h1 hx2 hhex
    have hap : ∀ (p q : ByteArray), (p ++ q).data.toList = p.data.toList ++ q.data.toList := fun p q => by simp
    have HK1 := Lib.hid (bytes_any (t ++ ⟨#[48]⟩) (x ++ [48]) w2 (by rw [hap, Hx.out]) (by simp; omega))
    go_wp2_with (first
      | (go_at_call 29
         refine HK1.out.mono ?_
         rintro e w3 ⟨hb3, hans3⟩
         rw [H1.out] at hans3
         obtain rfl := hans3)
      | fail)
    have hB3 : Below w.heap.size w w3 := hB2.trans (hb3.mono hB2.size)
    have hex : ∀ (p q : Nat), (t.extract p q).data.toList = (x.drop p).take (q - p) := fun p q => by
      rw [← Hx.out]; simp [List.drop_take, List.extract_eq_take_drop]
    have hk2 : ∀ W, Calls Try.prog 29 #[.string (t.extract 0 k ++ ⟨#[71, 48]⟩ ++ t.extract k n)] W fun e w' => e = .returned (.tuple #[.slice none 0 0, .int .i64 2]) ∧ Below W.heap.size W w' := fun W => by
      refine (bytes_any _ (x.take k ++ [71, 48] ++ x.drop k) W (by rw [hap, hap, hex, hex]; simp; rw [← hxn, List.take_of_length_le (by simp)]) (by simp; omega)).mono ?_
      rintro e w' ⟨hb, h⟩
      rw [H2.out] at h
      exact ⟨h, hb⟩
    have HK2 := Lib.hid hk2
    have hk0 : (0 : Int) ≤ (k : Int) := by omega
    have hkn : (k : Int) ≤ (n : Int) := by omega
    have HKh := fun W (h : Bytes W A b) => hex_any A b.length cap b W rfl h (by omega)
    rw [Hhex.out] at HKh
    have HKH := Lib.hid HKh
    clear hk2 hex hap HKh
    refine wp_region_quiet_below (by kernel_rfl) (by kernel_rfl) ?_
    repeat (go_big_quiet_step ((go_at_call 29; with_reducible exact regrown_below (HK2.out _))))
    refine wpQuiet_nil ?_
    intro w4 hw4
    have hb4 := Re.below hw4
    have hby4 := (hby.keep hb3).keep hb4
    have hB4 : Below w.heap.size w w4 := hB3.trans (hb4.mono hB3.size)
    go_wp2_with (first
      | (go_at_call 31
         refine (HKH.out w4 hby4).mono ?_
         rintro e w5 ⟨rfl, hb5⟩)
      | fail)
    go_ret
    exact ⟨rfl, hB4.trans (hb5.mono hB4.size)⟩
end Go.Proofs.Ytnlkjhhocehhaaa.digestOnly
