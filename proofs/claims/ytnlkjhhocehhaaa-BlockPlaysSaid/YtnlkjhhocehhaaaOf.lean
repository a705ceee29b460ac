/- The contracts of digest.Of, and of (digest.Sum).Now at a digest that is not there. -/
import Derived.Test.YtnlkjhhocehhaaaNow
namespace Go.Proofs.Ytnlkjhhocehhaaa
set_option linter.unusedVariables false
open Go Go.RowKit Go.Proofs Sha
set_option maxRecDepth 100000 in
theorem of_any (x : List UInt8) (A : Option Addr) (n c : Nat) (w : World) (hn : n = x.length) (hx : Bytes w A x) (hl : x.length ≤ 500000000) :
    Calls Try.prog 23 #[.slice A n c] w fun e w' => e = .returned (.agg (byteVals (sha x)).toArray) ∧ Below w.heap.size w w' := by
  subst hn
  have halloc : Blk (w.alloc (.cells (byteVals (List.replicate 32 0)).toArray 25)) w.heap.size 25 (byteVals (List.replicate 32 0)).toArray := Blk.new _ _ _
  have hsz : (byteVals (sha x)).toArray.size = 32 := by simp [byteVals, length_sha]
  have hi25 : (Try.prog.info? 25).map (·.size) = some (byteVals (sha x)).toArray.size := by rw [hsz]; kernel_rfl
  have h1c : (byteVals (sha x)).toArray.all (·.oneCell') = true := all_oneCell_toArray (byteVals_one _)
  have Hi25 := Lib.hid hi25
  have Hsz := Lib.hid hsz
  have H1c := Lib.hid h1c
  clear hi25 hsz h1c
  go_enter Try.func23, Try.ntmps23
  go_wp2_with (first
    | (go_at_call 25
       refine (new_any _).mono ?_
       rintro e w1 ⟨g, rfl, hs1, hg1, hset1, hb1⟩
       have hx1 : Bytes w1 A x := hx.fr (((Fr.refl nob w).alloc _).then (Fr.of_below hb1 nob) (fun _ h => h.elim)) (fun _ _ _ _ h => h)
       have hK := add_any g [] x A c w1 hs1 hx1 (by simp; omega)
       have HK := Lib.hid hK
       clear hK)
    | (go_at_call 26
       refine HK.out.mono ?_
       rintro e w2 ⟨rfl, hs2, hf2, hset2⟩
       rw [List.nil_append] at hs2)
    | (go_at_call 27
       refine (now_any g x w2 hs2 hl).mono ?_
       rintro e w3 ⟨rfl, hb3⟩
       have hB1 : Below w.heap.size w w1 := ((Below.refl _ _).alloc (Nat.le_refl _) _).trans (hb1.mono (by simp))
       have hB2 : Below w.heap.size w w2 := hB1.trans (hf2.below hB1.size (fun k hk => by have := hset1 k hk; simp at this; omega))
       have hB3 : Below w.heap.size w w3 := hB2.trans (hb3.mono hB2.size)
       have so2 : Blk w3 w.heap.size 25 (byteVals (List.replicate 32 0)).toArray := by
         have h1 := halloc.below hb1 (by simp)
         have h2 := h1.fr hf2 (fun hk => by have := hset1 _ hk; simp at this; omega)
         exact h2.below hb3 h2.lt)
    | (refine wpList_store_blk rfl 25 (.tmp 2) (.tmp 9) rfl w.heap.size 25 (byteVals (List.replicate 32 0)).toArray (byteVals (sha x)).toArray rfl rfl so2 (by rw [Hsz.out]; rfl) Hi25.out H1c.out ?_; intro w8 hb8 hf8)
    | fail)
  exact bodyPost_ret (v := .agg (byteVals (sha x)).toArray) (by
    refine results_cell_row (cs := (byteVals (sha x)).toArray) rfl _ _ w.heap.size 25 (0, 0) _ rfl hb8 Try.underlying25 rfl Hi25.out) rfl
    ⟨rfl, hB3.trans (hf8.below hB3.size (fun k hk => by cases hk; exact Nat.le_refl _))⟩
set_option maxRecDepth 100000 in
theorem now_nil (w : World) :
    Calls Try.prog 27 #[.pointer none] w fun e w' => e = .returned (.agg (byteVals (sha [])).toArray) ∧ Below w.heap.size w w' := by
  have halloc : Blk (w.alloc (.cells (byteVals (List.replicate 32 0)).toArray 25)) w.heap.size 25 (byteVals (List.replicate 32 0)).toArray := Blk.new _ _ _
  have hsz : (byteVals (sha [])).toArray.size = 32 := by simp [byteVals, length_sha]
  have hi25 : (Try.prog.info? 25).map (·.size) = some (byteVals (sha [])).toArray.size := by rw [hsz]; kernel_rfl
  have h1c : (byteVals (sha [])).toArray.all (·.oneCell') = true := all_oneCell_toArray (byteVals_one _)
  have Hi25 := Lib.hid hi25
  have Hsz := Lib.hid hsz
  have H1c := Lib.hid h1c
  have HK := Lib.hid (of_any [] none 0 0 (w.alloc (.cells (byteVals (List.replicate 32 0)).toArray 25)) rfl (Bytes.nil _ _) (by simp))
  clear hi25 hsz h1c
  go_enter Try.func27, Try.ntmps27
  go_wp2_with (first
    | (go_at_call 23
       refine HK.out.mono ?_
       rintro e w3 ⟨rfl, hb3⟩
       have so2 : Blk w3 w.heap.size 25 (byteVals (List.replicate 32 0)).toArray := halloc.below hb3 halloc.lt)
    | (refine wpList_store_blk rfl 25 (.tmp 2) (.tmp 10) rfl w.heap.size 25 (byteVals (List.replicate 32 0)).toArray (byteVals (sha [])).toArray rfl rfl so2 (by rw [Hsz.out]; rfl) Hi25.out H1c.out ?_; intro w8 hb8 hf8)
    | fail)
  have hB3 : Below w.heap.size w w3 := ((Below.refl _ _).alloc (Nat.le_refl _) _).trans (hb3.mono (by simp))
  exact bodyPost_ret (v := .agg (byteVals (sha [])).toArray) (by
    refine results_cell_row (cs := (byteVals (sha [])).toArray) rfl _ _ w.heap.size 25 (0, 0) _ rfl hb8 Try.underlying25 rfl Hi25.out) rfl
    ⟨rfl, hB3.trans (hf8.below hB3.size (fun k hk => by cases hk; exact Nat.le_refl _))⟩
end Go.Proofs.Ytnlkjhhocehhaaa
