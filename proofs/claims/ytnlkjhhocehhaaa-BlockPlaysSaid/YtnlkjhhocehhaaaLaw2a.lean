/- The law's own helpers: lives, early; digest.Short. -/
import Derived.Test.YtnlkjhhocehhaaaOf
import Derived.Test.YtnlkjhhocehhaaaHex
import Derived.Lib.SlBytesConst
namespace Go.Proofs.Ytnlkjhhocehhaaa
set_option linter.unusedVariables false
open Go Go.RowKit Go.Proofs Sha
def zeroOut : Array Value := (byteVals (List.replicate 32 0)).toArray
theorem alloc25 (W : World) : (Instr.alloc 25 true (.tuple #[])).run Try.prog W = .ok (.pointer (some ⟨W.heap.size, 0, none⟩)) (W.alloc (.cells zeroOut 25)) := by kernel_rfl
def shaV (l : List UInt8) : Array Value := (byteVals (sha l)).toArray
theorem size_shaV (l : List UInt8) : (shaV l).size = 32 := by simp [shaV, byteVals, length_sha]
theorem info_shaV (l : List UInt8) : (Try.prog.info? 25).map (·.size) = some (shaV l).size := by rw [size_shaV]; kernel_rfl
theorem one_shaV (l : List UInt8) : (shaV l).all (·.oneCell') = true := all_oneCell_toArray (byteVals_one _)
theorem zero_shaV (l : List UInt8) : (shaV l).size = zeroOut.size := by rw [size_shaV]; rfl
theorem bytes_shaV {w : World} {g : Nat} {l : List UInt8} (h : Blk w g 25 (shaV l)) : Bytes w (some ⟨g, 0, none⟩) (sha l) :=
  ⟨by simp [byteVals], fun _ => ⟨g, 0, rfl, h.lt, fun j u hj => by rw [h.cell, Nat.zero_add]; simpa [shaV] using hj⟩⟩
theorem bytes_src {w : World} {t : TypeId} (l : List UInt8) : Bytes (w.alloc (.cells (byteVals l).toArray t)) (some ⟨w.heap.size, 0, none⟩) l :=
  ⟨by simp [byteVals], fun _ => ⟨_, _, rfl, by simp, fun j u hj => by rw [(Blk.new w t _).cell, Nat.zero_add]; simpa using hj⟩⟩
theorem bytes_marked {w : World} {t : TypeId} (l : List UInt8) (q : Nat × Nat) : Bytes (w.alloc (.cells (byteVals l).toArray t q)) (some ⟨w.heap.size, 0, none⟩) l :=
  ⟨by simp [byteVals], fun _ => ⟨_, _, rfl, by simp, fun j u hj => by
    rw [cell_of_row _ _ _ (byteVals l).toArray t q (by show (w.heap.push _)[w.heap.size]? = _; simp), Nat.zero_add]; simpa using hj⟩⟩
theorem abc_hex : hexOf (sha [97, 98, 99]) = [98, 97, 55, 56, 49, 54, 98, 102, 56, 102, 48, 49, 99, 102, 101, 97, 52, 49, 52, 49, 52, 48, 100, 101, 53, 100, 97, 101, 50, 50, 50, 51, 98, 48, 48, 51, 54, 49, 97, 51, 57, 54, 49, 55, 55, 97, 57, 99, 98, 52, 49, 48, 102, 102, 54, 49, 102, 50, 48, 48, 49, 53, 97, 100] := by decide +kernel
theorem hex_abc (g : Nat) (w : World) (h : Blk w g 25 (shaV [97, 98, 99])) :
    Calls Try.prog 31 #[.slice (some ⟨g, 0, none⟩) 32 32] w fun e w' => e = .returned (.string ⟨#[98, 97, 55, 56, 49, 54, 98, 102, 56, 102, 48, 49, 99, 102, 101, 97, 52, 49, 52, 49, 52, 48, 100, 101, 53, 100, 97, 101, 50, 50, 50, 51, 98, 48, 48, 51, 54, 49, 97, 51, 57, 54, 49, 55, 55, 97, 57, 99, 98, 52, 49, 48, 102, 102, 54, 49, 102, 50, 48, 48, 49, 53, 97, 100]⟩) ∧ Below w.heap.size w w' := by
  refine (hex_any (some ⟨g, 0, none⟩) 32 32 (sha [97, 98, 99]) w (length_sha _).symm (bytes_shaV h) (by rw [length_sha]; omega)).mono ?_
  rintro e w' ⟨rfl, hb⟩
  exact ⟨by rw [abc_hex], hb⟩
set_option maxRecDepth 100000 in
theorem lives2 (w : World) : Calls Try.prog 20 #[] w fun e w' => e = .returned (.bool true) ∧ Below w.heap.size w w' := by
  have hcv := Go.Lib.run_convert_bytes_const (P := Try.prog) w 22 5 #[.int .u8 97, .int .u8 98, .int .u8 99] 3 3 Try.underlying22 Try.underlying5
  have HK : Hid (Calls Try.prog 23 #[.slice (some ⟨w.heap.size, 0, none⟩) 3 3] (w.alloc (.cells #[.int .u8 97, .int .u8 98, .int .u8 99] 5 (3, 4))) fun e w' => e = .returned (.agg (shaV [97, 98, 99])) ∧ Below (w.alloc (.cells #[.int .u8 97, .int .u8 98, .int .u8 99] 5 (3, 4))).heap.size (w.alloc (.cells #[.int .u8 97, .int .u8 98, .int .u8 99] 5 (3, 4))) w') :=
    of_any [97, 98, 99] (some ⟨w.heap.size, 0, none⟩) 3 3 (w.alloc (.cells (byteVals [97, 98, 99]).toArray 5 (3, 4))) rfl (bytes_marked _ _) (by simp)
  go_enter Try.func20, Try.ntmps20
  go_wp2_with (first
    | simp only [hcv]
    | (go_at_call 23
       refine HK.out.mono ?_
       rintro e w1 ⟨rfl, hb1⟩)
    | (with_reducible refine wpList_alloc_run rfl 25 rfl zeroOut alloc25 ?_)
    | (refine wpList_store_blk rfl 25 (.tmp 1) (.tmp 4) rfl w1.heap.size 25 zeroOut (shaV [97, 98, 99]) rfl rfl (Blk.new w1 25 zeroOut) (zero_shaV _) (info_shaV _) (one_shaV _) ?_; intro w2 hb2 hf2)
    | (go_at_call 31
       refine (hex_abc _ _ hb2).mono ?_
       rintro e w3 ⟨rfl, hb3⟩)
    | fail)
  have hF1 : Fr nob w w1 := ((Fr.refl nob w).alloc _).trans (Fr.of_below hb1 nob)
  have hF2 : Fr nob w w2 := (hF1.alloc (.cells zeroOut 25)).then hf2 (fun i hi => Or.inr (by have := hF1.size; unfold one at hi; omega))
  have hF3 : Fr nob w w3 := hF2.trans (Fr.of_below hb3 nob)
  go_ret
  exact ⟨rfl, hF3.below_nob⟩
theorem early2 (A : Option Addr) (n c : Nat) (w : World) (hn : n ≤ c) (hc : c ≤ maxLen) : Calls Try.prog 21 #[.slice A n c] w fun e w' => e = .returned (.slice A (min n 300) c) ∧ w = w' := by
  unfold maxLen at hc
  go_enter Try.func21, Try.ntmps21
  go_wp2
  go_ret
  exact ⟨by show Ending.returned (.slice A (min (n : Int) 300).toNat c) = _; rw [show (min (n : Int) 300).toNat = min n 300 by omega], rfl⟩
theorem early3 (A : Option Addr) (n c m : Nat) (w : World) (hn : n ≤ c) (hc : c ≤ maxLen) (hm : m = min n 300) : Calls Try.prog 21 #[.slice A n c] w fun e w' => e = .returned (.slice A m c) ∧ w = w' := by
  rw [hm]; exact early2 A n c w hn hc
end Go.Proofs.Ytnlkjhhocehhaaa
