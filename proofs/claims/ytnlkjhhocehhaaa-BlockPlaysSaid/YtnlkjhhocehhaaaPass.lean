/- The contract of the closure of seal.Of: the digest of a key of 64 bytes under a mask, and what stands behind it. -/
import Derived.Test.YtnlkjhhocehhaaaLaw2a
import Derived.Test.YtnlkjhhocehhaaaFrame
import Derived.ChangeKeysEq
namespace Go.Proofs.Ytnlkjhhocehhaaa
set_option linter.unusedVariables false
open Go Go.RowKit Go.Proofs Sha
theorem index_arr (cs : List UInt8) (h64 : cs.length = 64) (k : Nat) (hk : k < 64) (W : World) :
    (Instr.index 111 (.agg (byteVals cs).toArray) (.int .i64 (k : Int))).run Try.prog W = .ok (.int .u8 (n8 (cs.getD k 0))) W := by
  have e1 := byteVals_get cs k (by omega)
  simp [Instr.index, run_underlying Try.underlying111, asIntOf, go_sem, hk, e1]
  rfl
def key64 (k : List UInt8) : List UInt8 := k ++ List.replicate (64 - k.length) 0
def pass (m : UInt8) (k x : List UInt8) : List UInt8 := sha (k.map (· ^^^ m) ++ x)
theorem xor_byte (x m : UInt8) : bits .xor .u8 (n8 x) (n8 m) = n8 (x ^^^ m) := by
  show IntKind.u8.wrap ((BitVec.ofInt 8 (x.toNat : Int) ^^^ BitVec.ofInt 8 (m.toNat : Int)).toNat : Int) = _
  rw [BitVec.toNat_xor, BitVec.ofInt_natCast, BitVec.ofInt_natCast, BitVec.toNat_ofNat, BitVec.toNat_ofNat, Nat.mod_eq_of_lt x.toNat_lt, Nat.mod_eq_of_lt m.toNat_lt]
  unfold n8
  rw [UInt8.toNat_xor]
  have := (x ^^^ m).toNat_lt
  rw [UInt8.toNat_xor] at this
  simp [IntKind.wrap, IntKind.bits, IntKind.signed]; omega
theorem info111 (l : List UInt8) (h : l.length = 64) : (Try.prog.info? 111).map (·.size) = some (byteVals l).toArray.size := by
  rw [show (byteVals l).toArray.size = 64 by simp [byteVals, h]]; kernel_rfl
set_option maxRecDepth 100000 in
set_option maxHeartbeats 1000000 in
theorem pass_any (m : UInt8) (K x : List UInt8) (A : Option Addr) (n c gp : Nat) (w : World) (hK : K.length = 64) (hp : Blk w gp 111 (byteVals K).toArray) (hn : n = x.length) (hx : Bytes w A x) (hl : x.length ≤ 400000000) :
    Calls Try.prog 78 #[.int .u8 (n8 m), .slice A n c, .pointer (some ⟨gp, 0, none⟩)] w fun e w' => e = .returned (.agg (shaV (K.map (· ^^^ m) ++ x))) ∧ Below w.heap.size w w' := by
  subst hn
  have hlt := hp.lt
  have Hi := Lib.hid (info111 K hK)
  have HK := Lib.hid hK
  clear hK
  go_enter Try.func78, Try.ntmps78
  go_wp2_with (first
    | (with_reducible refine wpList_alloc_run rfl 25 rfl zeroOut alloc25 ?_)
    | (go_at_call 25
       refine (new_any _).mono ?_
       rintro e w1 ⟨g, rfl, hs1, hg1, hset1, hb1⟩
       have hB1 : Below w.heap.size w w1 := ((Below.refl _ _).alloc (Nat.le_refl _) _).trans (hb1.mono (by simp))
       have hp1 : Blk w1 gp 111 (byteVals K).toArray := hp.below hB1 hlt)
    | (refine wpList_load_blk rfl 111 (.tmp 2) rfl gp 111 (byteVals K).toArray _ rfl hp1 Try.underlying111 rfl Hi.out ?_)
    | fail)
  have hso : Blk w1 w.heap.size 25 zeroOut := (Blk.new w 25 zeroOut).below hb1 (by simp)
  go_loopw [8, 11] (fun c8 c11 wr => ∃ k : Nat, k ≤ 64 ∧ c11 = .int .i64 k ∧ SumAt wr g ((K.take k).map (· ^^^ m)) ∧ (∀ b, sumSet wr g b → w.heap.size + 1 ≤ b) ∧ Below w.heap.size w wr ∧ Blk wr w.heap.size 25 zeroOut) (fun _ c11 _ => 64 - (intOf c11).toNat)
  case atStart => exact ⟨0, by omega, rfl, hs1, fun b hb => by have := hset1 b hb; simpa using this, hB1, hso⟩
  case round =>
    obtain ⟨k, hk, rfl, hs, hset, hB, ho⟩ := hrel
    by_cases hlt : k < 64
    · have hidx := index_arr K HK.out k hlt
      obtain ⟨b, hb⟩ : ∃ b, b = K.getD k 0 := ⟨_, rfl⟩
      rw [← hb] at hidx
      have hxor := xor_byte b m
      have htake : (K.take (k + 1)).map (· ^^^ m) = (K.take k).map (· ^^^ m) ++ [b ^^^ m] := by
        rw [List.take_succ_eq_append_getElem (by rw [HK.out]; exact hlt), List.map_append, hb]; simp [HK.out, hlt]
      have Ht := Lib.hid htake
      clear hb htake
      have hs' : SumAt (wr.alloc (.cells (byteVals [b ^^^ m]).toArray 5)) g ((K.take k).map (· ^^^ m)) := by
        obtain ⟨v, h1, h2⟩ := hs
        exact ⟨v, h1.alloc _, h2.fr ((Fr.refl nob wr).alloc _) (fun _ h => h.elim)⟩
      have hset' : ∀ q, sumSet (wr.alloc (.cells (byteVals [b ^^^ m]).toArray 5)) g q → w.heap.size + 1 ≤ q := by
        obtain ⟨v, h1, h2⟩ := hs
        rintro q (rfl | ⟨u, hu, hq⟩)
        · exact hset _ (.inl rfl)
        · exact hset _ (.inr ⟨u, by rw [← hu]; exact (((Fr.refl nob wr).alloc (.cells (byteVals [b ^^^ m]).toArray 5)).cell h1.lt (fun h => h.elim)).symm, hq⟩)
      have HA := Lib.hid (add_any g _ [b ^^^ m] (some ⟨wr.heap.size, 0, none⟩) 1 _ hs' (bytes_src (w := wr) (t := 5) [b ^^^ m]) (by simp; omega))
      have hBa := hB.alloc (Nat.le_of_lt (by have := ho.lt; exact this)) (.cells (byteVals [b ^^^ m]).toArray 5)
      have hoa := ho.alloc (.cells (byteVals [b ^^^ m]).toArray 5)
      go_wp2_with (first
        | (go_at_call 26
           refine HA.out.mono ?_
           rintro e w2 ⟨rfl, hs2, hf2, hset2⟩)
        | fail)
      go_roundw
      case rel =>
        refine ⟨k + 1, by omega, by go_num, by rw [Ht.out]; exact hs2, fun q hq => ?_, ?_, ?_⟩
        · rcases hset2 q hq with h | h
          · exact hset' q h
          · have := ho.lt; simp at h; omega
        · exact hBa.trans (hf2.below hBa.size (fun q hq => by have := hset' q hq; omega))
        · exact hoa.fr hf2 (fun h => by have := hset' _ h; omega)
      case measure => simp [intOf]; omega
    · obtain rfl : k = 64 := by omega
      rw [List.take_of_length_le (by rw [HK.out]; exact Nat.le_refl _)] at hs
      obtain ⟨y, hy⟩ : ∃ y, y = K.map (· ^^^ m) := ⟨_, rfl⟩
      rw [← hy] at hs
      have hyl : y.length = 64 := by rw [hy, List.length_map, HK.out]
      have Hy := Lib.hid hy
      clear hy
      have HA := Lib.hid (add_any g y x A c wr hs (hx.keep hB) (by omega))
      go_wp2_with (first
        | (go_at_call 26
           refine HA.out.mono ?_
           rintro e w2 ⟨rfl, hs2, hf2, hset2⟩
           have hN := Lib.hid (now_any g (y ++ x) w2 hs2 (by simp; omega)))
        | (go_at_call 27
           refine hN.out.mono ?_
           rintro e w3 ⟨rfl, hb3⟩
           have ho2 : Blk w2 w.heap.size 25 zeroOut := ho.fr hf2 (fun h => by have := hset _ h; omega)
           have ho3 : Blk w3 w.heap.size 25 zeroOut := ho2.below hb3 ho2.lt
           have hB2 : Below w.heap.size w w2 := hB.trans (hf2.below hB.size (fun q hq => by have := hset q hq; omega))
           have hB3 : Below w.heap.size w w3 := hB2.trans (hb3.mono hB2.size))
        | (refine wpList_store_blk rfl 25 (.tmp 5) (.tmp 25) rfl w.heap.size 25 zeroOut (shaV (y ++ x)) rfl rfl ho3 (zero_shaV _) (info_shaV _) (one_shaV _) ?_
           intro w4 hb4 hf4)
        | fail)
      exact bodyPost_ret (v := .agg (shaV (y ++ x))) (by
        refine results_cell_row (cs := shaV (y ++ x)) rfl _ _ w.heap.size 25 (0, 0) _ rfl hb4 Try.underlying25 rfl (info_shaV _)) rfl
        ⟨by rw [Hy.out], hB3.trans (hf4.below hB3.size (fun k hk => by cases hk; exact Nat.le_refl _))⟩
end Go.Proofs.Ytnlkjhhocehhaaa
