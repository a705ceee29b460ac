/- The law DigestHex: bytes as signs, and the bytes of signs, there and back. For every input. -/
import Derived.Test.YtnlkjhhocehhaaaLaw2a
import Derived.Test.YtnlkjhhocehhaaaRefHex
import Derived.Test.YtnlkjhhocehhaaaRefBytes
import Derived.Laws.BytesArg
import Derived.Laws.IdiomStrings
namespace Go.Proofs.Ytnlkjhhocehhaaa
open Go Go.RowKit Go.Proofs
theorem back_str (w : World) (A : Option Addr) (n c : Nat) (l : List UInt8) (hn : n = l.length) (h : Bytes w A l) :
    (convert 22 9 (.slice A n c)).run Try.prog w = .ok (.string ⟨l.toArray⟩) w := by
  subst hn
  rcases l with _ | ⟨x, l⟩
  · rcases A with _ | a
    · exact Go.run_convert_bytes_nil w 22 5 Try.underlying22 Try.underlying5 0 c 9 Try.underlying9
    · exact run_convert_bytes_back w 22 9 5 a c [] Try.underlying22 Try.underlying5 Try.underlying9 (fun j hj => absurd hj (by simp))
  · obtain ⟨g, o, rfl, hg, hc⟩ := h.2 (by simp)
    refine run_convert_bytes_back w 22 9 5 ⟨g, o, none⟩ c (x :: l) Try.underlying22 Try.underlying5 Try.underlying9 (fun j hj => ?_)
    rw [show (⟨g, o, none⟩ : Addr).add j = ⟨g, o + j, none⟩ by simp [Addr.add]]
    refine hc j _ ?_
    simp only [byteVals, List.getElem?_map, List.getElem?_eq_getElem hj, Option.map_some]
    rfl
end Go.Proofs.Ytnlkjhhocehhaaa
namespace Go.Proofs.Ytnlkjhhocehhaaa.digestHex
open Go Go.RowKit Go.Proofs Go.Proofs.Ytnlkjhhocehhaaa Sha
set_option linter.unusedVariables false
set_option maxRecDepth 100000 in
set_option maxHeartbeats 2000000 in
theorem walk (a0 : Option Addr) (len0 cap0 : Nat) (z0 : List Int) (a1 : ByteArray) (w : World) (w0 : IsRow .u8 w a0 len0 cap0 z0) (w1 : a1.size ≤ maxLen) :
    Calls Try.prog 6 #[.slice a0 len0 cap0, .string a1] w fun e w' => e = .returned (.bool true) ∧ Below w.heap.size w w' := by
  obtain ⟨l, hA⟩ := arg_of w0
  clear w0
  obtain ⟨n, hn⟩ : ∃ n, n = min len0 300 := ⟨_, rfl⟩
  obtain ⟨m, hm⟩ : ∃ m, m = min a1.size 300 := ⟨_, rfl⟩
  obtain ⟨b, hx⟩ : ∃ b, b = l.take n := ⟨_, rfl⟩
  obtain ⟨t, ht⟩ : ∃ t, t = a1.extract 0 m := ⟨_, rfl⟩
  obtain ⟨x, hxt⟩ : ∃ x, t.data.toList = x := ⟨_, rfl⟩
  have htm : t.size = m := by rw [ht, ByteArray.size_extract]; omega
  have hxm : x.length = m := by rw [← hxt, ← htm]; exact Array.length_toList
  have hnl : n = b.length := by rw [hx, List.length_take, ← hA.len]; omega
  have hn300 : n ≤ 300 := by omega
  have hb300 : b.length ≤ 300 := by omega
  have hm300 : m ≤ 300 := by omega
  have hbx : Bytes w a0 b := by rw [hx]; exact hA.bytes.take _
  have hle := hA.le
  have hcap := hA.cap
  have Hn := Lib.hid hn
  have Hnl := Lib.hid hnl
  have Hx := Lib.hid hxt
  have HM := Lib.hid (show (m : Int) = min (a1.size : Int) 300 by omega)
  have Ht := Lib.hid ht
  have hnc : n ≤ cap0 := by omega
  have hmt : (min (a1.size : Int) 300).toNat = m := by omega
  clear hx hA hn hnl hxt hm ht
  go_enter Try.func6, Try.ntmps6
  go_wp2_with (first
    | (go_at_call 20
       refine (lives2 w).mono ?_
       rintro e w1 ⟨rfl, hb1⟩
       have HE := Lib.hid (fun w => early3 a0 len0 cap0 n w hle hcap Hn.out))
    | fail)
  refine wp_region_quiet_below (by kernel_rfl) (by kernel_rfl) ?_
  repeat (go_big_quiet_step ((go_at_call 21; exact regrown_same (HE.out _))))
  refine wpQuiet_nil ?_
  intro w2 hw2
  have hb2 := Re.below hw2
  go_wp2_with fail
  rw [← Ht.out]
  have hB2 : Below w.heap.size w w2 := hb1.trans (hb2.mono hb1.size)
  have hbx2 := (hbx.keep hb1).keep hb2
  refine (bytes_any t x w2 Hx.out (by omega)).mono ?_
  rintro e w3 ⟨hb3, hans⟩
  have hB3 : Below w.heap.size w w3 := hB2.trans (hb3.mono hB2.size)
  have HH : Hid (∀ n W, n = b.length → Bytes W a0 b → Calls Try.prog 31 #[.slice a0 n cap0] W fun e w' => e = .returned (.string ⟨(hexOf b).toArray⟩) ∧ Below W.heap.size W w') := Lib.hid (fun n W hn h => hex_any a0 n cap0 b W hn h (by omega))
  have HR : Hid (∀ n W, n = b.length → Bytes W a0 b → Calls Try.prog 32 #[.slice a0 n cap0] W fun e w' => e = .returned (.string ⟨(hexOf b).toArray⟩) ∧ Below W.heap.size W w') := Lib.hid (fun n W hn h => refhex_any a0 n cap0 b W hn h (by omega))
  have hsize : (hexOf b).length = 2 * b.length := length_hexOf b
  obtain ⟨y, hy⟩ : ∃ y, hexOf b = y := ⟨_, rfl⟩
  have hyb : unhex y = some b := by rw [← hy]; exact unhex_hex b
  rw [hy] at HH HR hsize
  have HB : Hid (∀ W, Calls Try.prog 29 #[.string ⟨y.toArray⟩] W fun e w' => BytesAns W y e w') := Lib.hid (fun W => bytes_any ⟨y.toArray⟩ y W (by simp) (by omega))
  have Hyb := Lib.hid hyb
  clear hy hyb hsize
  have HX : Hid (∀ W, Calls Try.prog 30 #[.string t] W fun e w' => BytesAns W x e w') := Lib.hid (fun W => refbytes_any t x W Hx.out (by omega))
  rcases hu : unhex x with _ | bb
  · rw [hu] at hans
    obtain rfl := hans
    have Hu := Lib.hid hu
    clear hu
    have hby3 := hbx2.keep hb3
    go_wp2_with (first
      | (go_at_call 30
         refine (HX.out w3).mono ?_
         rintro e w4 ⟨hb4, hans4⟩
         rw [Hu.out] at hans4
         obtain rfl := hans4
         have hby4 := hby3.keep hb4
         have hB4 : Below w.heap.size w w4 := hB3.trans (hb4.mono hB3.size))
      | (go_at_call 31
         refine (HH.out n w4 Hnl.out hby4).mono ?_
         rintro e w5 ⟨rfl, hb5⟩
         have hby5 := hby4.keep hb5
         have hB5 : Below w.heap.size w w5 := hB4.trans (hb5.mono hB4.size))
      | fail)
    refine (HB.out w5).mono ?_
    rintro e w6 ⟨hb6, hans6⟩
    rw [Hyb.out] at hans6
    obtain ⟨v, rfl, hown, hrow⟩ := hans6
    have hby6 := hby5.keep hb6
    have hB6 : Below w.heap.size w w6 := hB5.trans (hb6.mono hB5.size)
    obtain ⟨A, cap, rfl, hc1, hc2⟩ := hown.shape
    have hby := (Bytes.of_own hown).1
    go_wp2_with (first
      | (go_at_call 31
         refine (HH.out n w6 Hnl.out hby6).mono ?_
         rintro e w7 ⟨rfl, hb7⟩
         have hby7 := hby6.keep hb7
         have hB7 : Below w.heap.size w w7 := hB6.trans (hb7.mono hB6.size))
      | fail)
    refine (HR.out n w7 Hnl.out hby7).mono ?_
    rintro e w8 ⟨rfl, hb8⟩
    have hB8 : Below w.heap.size w w8 := hB7.trans (hb8.mono hB7.size)
    have hcv1 := back_str w8 A b.length cap b rfl ((hby.keep hb7).keep hb8)
    have hcv2 := back_str w8 a0 n cap0 b Hnl.out (hby7.keep hb8)
    have hcv3 := fun c => back_str w8 none 0 c [] rfl (Bytes.nil _ _)
    go_wp2_with fail
    go_ret
    exact ⟨rfl, hB8⟩
  · rw [hu] at hans
    obtain ⟨v1, rfl, hown1, hrow1⟩ := hans
    have Hu := Lib.hid hu
    clear hu
    have hby3 := hbx2.keep hb3
    obtain ⟨A1, cap1, rfl, hc11, hc12⟩ := hown1.shape
    have h13 := (Bytes.of_own hown1).1
    go_wp2_with (first
      | (go_at_call 30
         refine (HX.out w3).mono ?_
         rintro e w4 ⟨hb4, hans4⟩
         rw [Hu.out] at hans4
         obtain ⟨v2, rfl, hown2, hrow2⟩ := hans4
         have hby4 := hby3.keep hb4
         have h14 := h13.keep hb4
         obtain ⟨A2, cap2, rfl, hc21, hc22⟩ := hown2.shape
         have h24 := (Bytes.of_own hown2).1
         have hB4 : Below w.heap.size w w4 := hB3.trans (hb4.mono hB3.size))
      | (go_at_call 31
         refine (HH.out n w4 Hnl.out hby4).mono ?_
         rintro e w5 ⟨rfl, hb5⟩
         have hby5 := hby4.keep hb5
         have h15 := h14.keep hb5
         have h25 := h24.keep hb5
         have hB5 : Below w.heap.size w w5 := hB4.trans (hb5.mono hB4.size))
      | fail)
    refine (HB.out w5).mono ?_
    rintro e w6 ⟨hb6, hans6⟩
    rw [Hyb.out] at hans6
    obtain ⟨v, rfl, hown, hrow⟩ := hans6
    have hby6 := hby5.keep hb6
    have h16 := h15.keep hb6
    have h26 := h25.keep hb6
    have hB6 : Below w.heap.size w w6 := hB5.trans (hb6.mono hB5.size)
    obtain ⟨A, cap, rfl, hc1, hc2⟩ := hown.shape
    have hby := (Bytes.of_own hown).1
    go_wp2_with (first
      | (go_at_call 31
         refine (HH.out n w6 Hnl.out hby6).mono ?_
         rintro e w7 ⟨rfl, hb7⟩
         have hby7 := hby6.keep hb7
         have h17 := h16.keep hb7
         have h27 := h26.keep hb7
         have hB7 : Below w.heap.size w w7 := hB6.trans (hb7.mono hB6.size))
      | fail)
    refine (HR.out n w7 Hnl.out hby7).mono ?_
    rintro e w8 ⟨rfl, hb8⟩
    have hB8 : Below w.heap.size w w8 := hB7.trans (hb8.mono hB7.size)
    have hcv1 := back_str w8 A b.length cap b rfl ((hby.keep hb7).keep hb8)
    have hcv2 := back_str w8 a0 n cap0 b Hnl.out (hby7.keep hb8)
    have hcv3 := back_str w8 A1 bb.length cap1 bb rfl (h17.keep hb8)
    have hcv4 := back_str w8 A2 bb.length cap2 bb rfl (h27.keep hb8)
    go_wp2_with fail
    go_ret
    exact ⟨rfl, hB8⟩
end Go.Proofs.Ytnlkjhhocehhaaa.digestHex
