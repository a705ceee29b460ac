/- The contracts of digest.start, digest.keys: the words at first, the words of the rounds. -/
import Derived.Test.YtnlkjhhocehhaaaMix
import Derived.Test.YtnlkjhhocehhaaaMem
namespace Go.Proofs.Ytnlkjhhocehhaaa
open Go Go.RowKit Go.Proofs Sha
def keyCells : Array Value := (K.map v32).toArray
def keyV : Value := .agg keyCells
def zero64 : Array Value := (List.replicate 64 (Value.int .u32 0)).toArray
theorem zero64_eq : zero64 = ((List.replicate 64 (0:UInt32)).map v32).toArray := by rfl
theorem start_any (w : World) :
    Calls Try.prog 72 #[] w fun e w' => e = .returned (.agg (init.list.map v32).toArray) ∧ Below w.heap.size w w' := by
  go_enter Try.func72, Try.ntmps72
  go_wp2
  exact bodyPost_ret (v := .agg (init.list.map v32).toArray) (by
    refine results_cell_row (cs := (init.list.map v32).toArray) rfl _ _ w.heap.size 94 (0, 0) _ rfl (heap_alloc_new w _) Try.underlying94 rfl (by kernel_rfl)) rfl
    ⟨rfl, (Below.refl _ _).alloc (Nat.le_refl _) _⟩
theorem info96 : (Try.prog.info? 96).map (·.size) = some keyCells.size := by kernel_rfl
theorem alloc96 (W : World) : (Instr.alloc 96 true (.tuple #[])).run Try.prog W = .ok (.pointer (some ⟨W.heap.size, 0, none⟩)) (W.alloc (.cells zero64 96)) := by kernel_rfl
theorem key_one : keyCells.all (·.oneCell') = true := by decide +kernel
set_option maxRecDepth 100000 in
theorem keys_any (w : World) :
    Calls Try.prog 90 #[] w fun e w' => e = .returned keyV ∧ Below w.heap.size w w' := by
  go_enter Try.func90, Try.ntmps90
  go_wp2_with (first
    | (with_reducible refine wpList_alloc_run rfl 96 rfl zero64 alloc96 ?_)
    | (with_reducible refine wpList_build_run rfl 96 _ rfl keyV (by kernel_rfl) ?_)
    | (with_reducible refine wpList_store_blk rfl 96 (.tmp 0) (.tmp 1) rfl w.heap.size 96 zero64 keyCells rfl rfl (Blk.new w 96 zero64) (by decide +kernel) info96 key_one ?_; intro w1 hb1 hf1))
  exact bodyPost_ret (v := keyV) (by
    refine results_cell_row (cs := keyCells) rfl _ _ w.heap.size 96 (0, 0) _ rfl hb1 Try.underlying96 rfl info96) rfl
    ⟨rfl, ((Below.refl _ _).alloc (Nat.le_refl _) _).trans (hf1.below (by simp) (fun k hk => by cases hk; exact Nat.le_refl _))⟩
/-- Element number i of an array of one-cell elements. -/
theorem run_index_arr {P : Program} (t e : TypeId) (n : Nat) (cs : Array Value) (k : IntKind) (i : Nat) (w : World) (h : P.underlying t = some (.array n e)) (hi : i < n) (u : Value) (hu : cs[i]? = some u)
    (hs : ((P.info? e).map (·.size)) = some 1) (ha : (isAgg e).run P w = .ok false w) :
    (Instr.index t (.agg cs) (.int k (i : Int))).run P w = .ok u w := by
  cases hq : P.info? e with
  | none => simp [hq] at hs
  | some inf =>
    have h1 : inf.size = 1 := by simpa [hq] using hs
    simp [Instr.index, run_underlying h, asIntOf, hi, sizeOf, typeInfo, hq, h1, part, ha, hu]
theorem size93 : ((Try.prog.info? 93).map (·.size)) = some 1 := by kernel_rfl
theorem agg93 (w : World) : (isAgg 93).run Try.prog w = .ok false w := by kernel_rfl
theorem key_index (k : Nat) (h : k < 64) (W : World) : (Instr.index 96 keyV (.int .i64 (k : Int))).run Try.prog W = .ok (.int .u32 (n32 (K.getD k 0))) W := by
  refine run_index_arr 96 93 64 keyCells .i64 k W Try.underlying96 h _ ?_ size93 (agg93 W)
  have : k < K.length := h
  simp [keyCells, v32, List.getElem?_eq_getElem this]
end Go.Proofs.Ytnlkjhhocehhaaa
