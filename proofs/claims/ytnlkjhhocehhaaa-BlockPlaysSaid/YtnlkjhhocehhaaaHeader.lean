/- The contracts of seal.Header, seal.Key and of what the laws of seal begin with. -/
import Derived.Test.YtnlkjhhocehhaaaSealOf
import Derived.Lib.AppendStr
namespace Go.Proofs.Ytnlkjhhocehhaaa
set_option linter.unusedVariables false
open Go Go.RowKit Go.Proofs Sha
def headerOf (k x : List UInt8) : List UInt8 := [115, 104, 97, 50, 53, 54, 61] ++ hexOf (sealOf k x)
theorem length_headerOf (k x : List UInt8) : (headerOf k x).length = 71 := by
  unfold headerOf; rw [List.length_append, length_hexOf, length_seal]; rfl
def sealV (k x : List UInt8) : Array Value := (byteVals (sealOf k x)).toArray
theorem size_sealV (k x : List UInt8) : (sealV k x).size = 32 := size_shaV _
theorem info_sealV (k x : List UInt8) : (Try.prog.info? 25).map (·.size) = some (sealV k x).size := info_shaV _
theorem one_sealV (k x : List UInt8) : (sealV k x).all (·.oneCell') = true := one_shaV _
theorem zero_sealV (k x : List UInt8) : (sealV k x).size = zeroOut.size := zero_shaV _
theorem bytes_sealV {w : World} {g : Nat} {k x : List UInt8} (h : Blk w g 25 (sealV k x)) : Bytes w (some ⟨g, 0, none⟩) (sealOf k x) := bytes_shaV h
theorem early200 (A : Option Addr) (n c m : Nat) (w : World) (hn : n ≤ c) (hc : c ≤ maxLen) (hm : m = min n 200) : Calls Try.prog 34 #[.slice A n c] w fun e w' => e = .returned (.slice A m c) ∧ w = w' := by
  subst hm
  unfold maxLen at hc
  go_enter Try.func34, Try.ntmps34
  go_wp2
  go_ret
  exact ⟨by show Ending.returned (.slice A (min (n : Int) 200).toNat c) = _; rw [show (min (n : Int) 200).toNat = min n 200 by omega], rfl⟩
/-- An argument of bytes, the first 200 of it. -/
theorem early_arg {w : World} {A : Option Addr} {n c : Nat} {zs : List Int} (h : IsRow .u8 w A n c zs) : ∃ (m : Nat) (l : List UInt8), Hid (m = l.length) ∧ m ≤ 200 ∧ m ≤ c ∧ l.length ≤ 200 ∧ Bytes w A l ∧ n ≤ c ∧ c ≤ maxLen ∧ (A = none → m = 0) ∧
    Hid (∀ W, Calls Try.prog 34 #[.slice A n c] W fun e w' => e = .returned (.slice A m c) ∧ W = w') := by
  obtain ⟨l, hA⟩ := arg_of h
  have hl := hA.len
  have hle := hA.le
  have e : min n 200 = (l.take (min n 200)).length := by rw [List.length_take, ← hl]; omega
  refine ⟨min n 200, l.take (min n 200), e, by omega, by omega, by omega, hA.bytes.take _, hA.le, hA.cap, fun h => by have := hA.nil h; omega, fun W => early200 A n c _ W hA.le hA.cap rfl⟩
theorem str_append (p q : List UInt8) : (⟨p.toArray⟩ ++ ⟨q.toArray⟩ : ByteArray) = ⟨(p ++ q).toArray⟩ := by
  apply ByteArray.ext; simp
set_option maxRecDepth 100000 in
set_option maxHeartbeats 1000000 in
theorem header_any (k x : List UInt8) (A B : Option Addr) (n c m d : Nat) (w : World) (hn : n = k.length) (hm : m = x.length) (hk : Bytes w A k) (hx : Bytes w B x) (hk1 : k.length ≤ 400000000) (hx1 : x.length ≤ 400000000) :
    Calls Try.prog 37 #[.slice A n c, .slice B m d] w fun e w' => e = .returned (.string ⟨(headerOf k x).toArray⟩) ∧ Below w.heap.size w w' := by
  have HK := Lib.hid (seal_any k x A B n c m d w hn hm hk hx hk1 hx1)
  clear hn hm
  go_enter Try.func37, Try.ntmps37
  go_wp2_with (first
    | (go_at_call 35
       refine HK.out.mono ?_
       rintro e w1 ⟨rfl, hb1⟩
       have hB1 : Below w.heap.size w w1 := hb1)
    | (with_reducible refine wpList_alloc_run rfl 25 rfl zeroOut alloc25 ?_)
    | (refine wpList_store_blk rfl 25 (.tmp 5) (.tmp 8) rfl w1.heap.size 25 zeroOut (sealV k x) rfl rfl (Blk.new w1 25 zeroOut) (zero_sealV _ _) (info_sealV _ _) (one_sealV _ _) ?_
       intro w2 hb2 hf2
       have hF2 : Fr nob w1 w2 := ((Fr.refl nob w1).alloc (.cells zeroOut 25)).then hf2 (fun i hi => Or.inr (by unfold one at hi; omega))
       have hB2 : Below w.heap.size w w2 := hB1.trans (hF2.below_nob.mono hB1.size))
    | (go_at_call 31
       refine (hex_any (some ⟨w1.heap.size, 0, none⟩) 32 32 (sealOf k x) w2 (length_seal _ _).symm (bytes_sealV hb2) (by rw [length_seal]; omega)).mono ?_
       rintro e w3 ⟨rfl, hb3⟩
       obtain ⟨S, hS⟩ : ∃ S : ByteArray, S = ⟨(hexOf (sealOf k x)).toArray⟩ := ⟨_, rfl⟩
       have hSs : S.size = 64 := by rw [hS]; show (hexOf (sealOf k x)).toArray.size = 64; simp [length_hexOf, length_seal]
       rw [← hS]
       have HS := Lib.hid hS
       clear hS)
    | fail)
  go_ret
  exact ⟨by rw [headerOf, ← str_append, ← HS.out]; rfl, hB2.trans (hb3.mono hB2.size)⟩
def strBytes (s : ByteArray) : List UInt8 := s.data.toList
theorem strCells_bytes (s : ByteArray) : Lib.strCells s = byteVals (strBytes s) := rfl
theorem owns_new (w : World) (l : List UInt8) (n : Nat) (hn : l.length = n) (hm : n ≤ maxLen) : (w.alloc (.cells (byteVals l).toArray 5)).ownsRow w.heap.size 5 1 (.slice (some ⟨w.heap.size, 0, none⟩) n n) n (byteVals l) := by
  subst hn
  refine ⟨by simp [byteVals], .inr ⟨w.heap.size, l.length, (byteVals l).toArray, rfl, Nat.le_refl _, heap_alloc_new w _, Nat.le_refl _, hm, by simp [byteVals], ?_⟩⟩
  exact List.take_of_length_le (by simp [byteVals])
set_option maxRecDepth 100000 in
theorem key_any (k : List UInt8) (s : ByteArray) (A : Option Addr) (n c : Nat) (w : World) (hn : n = k.length) (hk : Bytes w A k) (hk1 : k.length ≤ 400000000) (hs : s.size ≤ 300000000) :
    Calls Try.prog 39 #[.slice A n c, .string s] w fun e w' => ∃ g, e = .returned (.slice (some ⟨g, 0, none⟩) 32 32) ∧ Blk w' g 25 (sealV k (0 :: strBytes s)) ∧ w.heap.size ≤ g ∧ Below w.heap.size w w' := by
  obtain ⟨i0, hi0, hz0, hz1, hz2⟩ := info_parts info5
  have Hn := Lib.hid hn
  clear hn
  have Hk := Lib.hid hk
  obtain ⟨y, hy⟩ : ∃ y, y = 0 :: strBytes s := ⟨_, rfl⟩
  have hyl : y.length = 1 + s.size := by rw [hy]; simp [strBytes]; omega
  rw [← hy]
  have Hy := Lib.hid hy
  have Hyl := Lib.hid hyl
  clear hy hyl
  go_enter Try.func39, Try.ntmps39
  go_wp2_with (first
    | (refine Lib.wpList_append_own_string _ rfl (.tmp 7) (.tmp 8) 22 9 rfl w.heap.size 5 i0 Try.underlying22 Try.underlying9 hi0 hz0 hz1 hz2 (.slice (some ⟨w.heap.size, 0, none⟩) 1 1) 1 (byteVals [0]) rfl (owns_new w [0] 1 rfl (by simp [maxLen])) s rfl (by simp [maxLen]; omega) (by omega) (by simp) ?_
       intro v w1 hown hgr _
       obtain ⟨A1, cap1, rfl, hc1, hc2⟩ := (Own.of_owns hown).shape
       have hF1 : Fr nob w w1 := ((Fr.refl nob w).alloc (.cells #[.int .u8 0] 5)).then (Fr.of_grown hgr (S := fun k => w.heap.size ≤ k) (fun k hk => by cases hk; exact Nat.le_refl _)) (fun i hi => Or.inr hi)
       have hk1' : Bytes w1 A k := Hk.out.keep hF1.below_nob
       have hy1 : Bytes w1 A1 y := by
         rw [Hy.out]
         have := Src.of_own (Own.of_owns hown)
         rw [strCells_bytes, ← byteVals_append] at this
         have e : (0 :: strBytes s).length = 1 + s.size := by rw [← Hy.out]; exact Hyl.out
         unfold Bytes
         rw [e]; exact this
       have HK := Lib.hid (seal_any k y A A1 n c (1 + s.size) cap1 w1 Hn.out Hyl.out.symm hk1' hy1 hk1 (by have := Hyl.out; omega)))
    | (go_at_call 35
       refine HK.out.mono ?_
       rintro e w2 ⟨rfl, hb2⟩
       have hB2 : Below w.heap.size w w2 := hF1.below_nob.trans (hb2.mono hF1.size))
    | (with_reducible refine wpList_alloc_run rfl 25 rfl zeroOut alloc25 ?_)
    | (refine wpList_store_blk rfl 25 (.tmp 5) (.tmp 10) rfl w2.heap.size 25 zeroOut (sealV k y) rfl rfl (Blk.new w2 25 zeroOut) (zero_sealV _ _) (info_sealV _ _) (one_sealV _ _) ?_
       intro w3 hb3 hf3
       have hF3 : Fr nob w2 w3 := ((Fr.refl nob w2).alloc (.cells zeroOut 25)).then hf3 (fun i hi => Or.inr (by unfold one at hi; omega))
       have hB3 : Below w.heap.size w w3 := hB2.trans (hF3.below_nob.mono hB2.size))
    | fail)
  go_ret
  exact ⟨w2.heap.size, rfl, hb3, hB2.size, hB3⟩
def jefe : List UInt8 := [74, 101, 102, 101]
def what : List UInt8 := [119, 104, 97, 116, 32, 100, 111, 32, 121, 97, 32, 119, 97, 110, 116, 32, 102, 111, 114, 32, 110, 111, 116, 104, 105, 110, 103, 63]
theorem header_jefe : (⟨(headerOf jefe what).toArray⟩ : ByteArray) = ⟨#[115, 104, 97, 50, 53, 54, 61, 53, 98, 100, 99, 99, 49, 52, 54, 98, 102, 54, 48, 55, 53, 52, 101, 54, 97, 48, 52, 50, 52, 50, 54, 48, 56, 57, 53, 55, 53, 99, 55, 53, 97, 48, 48, 51, 102, 48, 56, 57, 100, 50, 55, 51, 57, 56, 51, 57, 100, 101, 99, 53, 56, 98, 57, 54, 52, 101, 99, 51, 56, 52, 51]⟩ := by
  have : headerOf jefe what = [115, 104, 97, 50, 53, 54, 61, 53, 98, 100, 99, 99, 49, 52, 54, 98, 102, 54, 48, 55, 53, 52, 101, 54, 97, 48, 52, 50, 52, 50, 54, 48, 56, 57, 53, 55, 53, 99, 55, 53, 97, 48, 48, 51, 102, 48, 56, 57, 100, 50, 55, 51, 57, 56, 51, 57, 100, 101, 99, 53, 56, 98, 57, 54, 52, 101, 99, 51, 56, 52, 51] := by decide +kernel
  rw [this]
set_option maxRecDepth 100000 in
set_option maxHeartbeats 1000000 in
theorem lives33 (w : World) : Calls Try.prog 33 #[] w fun e w' => e = .returned (.bool true) ∧ Below w.heap.size w w' := by
  obtain ⟨w1, hw1⟩ : ∃ w1, w1 = w.alloc (.cells #[.int .u8 74, .int .u8 101, .int .u8 102, .int .u8 101] 5 (4, 5)) := ⟨_, rfl⟩
  have hs1 : w1.heap.size = w.heap.size + 1 := by rw [hw1]; simp
  have H1 : Hid ((convert 22 22 (.slice (some ⟨w.heap.size, 0, none⟩) 4 4)).run Try.prog (w.alloc (.cells #[.int .u8 74, .int .u8 101, .int .u8 102, .int .u8 101] 5)) = .ok (.slice (some ⟨w.heap.size, 0, none⟩) 4 4) w1) :=
    Lib.hid (by rw [hw1]; exact Go.Lib.run_convert_bytes_const (P := Try.prog) w 22 5 #[.int .u8 74, .int .u8 101, .int .u8 102, .int .u8 101] 4 4 Try.underlying22 Try.underlying5)
  have hb1 : Below w.heap.size w w1 := by rw [hw1]; exact (Below.refl _ _).alloc (Nat.le_refl _) _
  have hj : Bytes w1 (some ⟨w.heap.size, 0, none⟩) jefe := by rw [hw1]; exact bytes_marked jefe (4, 5)
  obtain ⟨w2, hw2⟩ : ∃ w2, w2 = w1.alloc (.cells #[.int .u8 119, .int .u8 104, .int .u8 97, .int .u8 116, .int .u8 32, .int .u8 100, .int .u8 111, .int .u8 32, .int .u8 121, .int .u8 97, .int .u8 32, .int .u8 119, .int .u8 97, .int .u8 110, .int .u8 116, .int .u8 32, .int .u8 102, .int .u8 111, .int .u8 114, .int .u8 32, .int .u8 110, .int .u8 111, .int .u8 116, .int .u8 104, .int .u8 105, .int .u8 110, .int .u8 103, .int .u8 63] 5 (28, 29)) := ⟨_, rfl⟩
  have H2 : Hid ((convert 22 22 (.slice (some ⟨w1.heap.size, 0, none⟩) 28 28)).run Try.prog (w1.alloc (.cells #[.int .u8 119, .int .u8 104, .int .u8 97, .int .u8 116, .int .u8 32, .int .u8 100, .int .u8 111, .int .u8 32, .int .u8 121, .int .u8 97, .int .u8 32, .int .u8 119, .int .u8 97, .int .u8 110, .int .u8 116, .int .u8 32, .int .u8 102, .int .u8 111, .int .u8 114, .int .u8 32, .int .u8 110, .int .u8 111, .int .u8 116, .int .u8 104, .int .u8 105, .int .u8 110, .int .u8 103, .int .u8 63] 5)) = .ok (.slice (some ⟨w1.heap.size, 0, none⟩) 28 28) w2) :=
    Lib.hid (by rw [hw2]; exact Go.Lib.run_convert_bytes_const (P := Try.prog) w1 22 5 #[.int .u8 119, .int .u8 104, .int .u8 97, .int .u8 116, .int .u8 32, .int .u8 100, .int .u8 111, .int .u8 32, .int .u8 121, .int .u8 97, .int .u8 32, .int .u8 119, .int .u8 97, .int .u8 110, .int .u8 116, .int .u8 32, .int .u8 102, .int .u8 111, .int .u8 114, .int .u8 32, .int .u8 110, .int .u8 111, .int .u8 116, .int .u8 104, .int .u8 105, .int .u8 110, .int .u8 103, .int .u8 63] 28 28 Try.underlying22 Try.underlying5)
  have hb2 : Below w1.heap.size w1 w2 := by rw [hw2]; exact (Below.refl _ _).alloc (Nat.le_refl _) _
  have hw : Bytes w2 (some ⟨w1.heap.size, 0, none⟩) what := by rw [hw2]; exact bytes_marked what (28, 29)
  have HK0 := header_any jefe what _ _ 4 4 28 28 w2 rfl rfl (hj.keep hb2) hw (by decide) (by decide)
  rw [header_jefe] at HK0
  rw [hs1] at HK0 H2
  have HK := Lib.hid HK0
  have HB : Hid (Below w.heap.size w w2) := Lib.hid (hb1.trans (hb2.mono hb1.size))
  clear hb1 hj hb2 hw HK0 hw1 hw2
  go_enter Try.func33, Try.ntmps33
  go_wp2_with (first
    | simp only [H1.out]
    | simp only [H2.out]
    | (go_at_call 37
       refine HK.out.mono ?_
       rintro e w3 ⟨rfl, hb3⟩)
    | fail)
  go_ret
  exact ⟨rfl, HB.out.trans (hb3.mono HB.out.size)⟩
end Go.Proofs.Ytnlkjhhocehhaaa
