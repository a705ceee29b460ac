/- New. -/
import Derived.Test.YtnlkjhhocehhaaaUp2
namespace Go.Proofs.Ytnlkjhhocehhaaa
set_option linter.unusedVariables false
open Go Go.RowKit Go.Proofs Sha
set_option maxRecDepth 100000 in
theorem make48 (n : Nat) (hn : n ≤ 100) (W : World) : (Instr.makeSlice 48 (.int .i64 (n : Int)) (.int .i64 (n : Int))).run Try.prog W = .ok (.slice (some ⟨W.heap.size, 0, none⟩) n n) (W.alloc (.cells (List.replicate n (Value.slice none 0 0)).toArray 22)) := by
  have h3 := info22'
  cases hi : Try.prog.info? 22 with
  | none => rw [hi] at h3; cases h3
  | some i =>
    rw [hi] at h3
    simp only [Option.map_some, Option.some.injEq, Prod.mk.injEq] at h3
    obtain ⟨h1, h2, h4⟩ := h3
    have := run_makeSlice (P := Try.prog) W 48 22 i (.slice none 0 0) Try.underlying48 hi h1 .i64 .i64 (n : Int) (n : Int) (by omega) (Int.le_refl _) (by rw [h2]; omega) (by rw [h4]; omega) (by omega)
    rw [Int.toNat_natCast, h2, Nat.mul_one] at this
    rw [this]
    congr 3
    show madeCells #[Value.slice none 0 0] n = _
    rw [made_one]
theorem build117 (v : Value) (a : Option Addr) (n c : Nat) (h : v = .slice a n c) (W : World) : (Instr.build 117 #[(0, v)]).run Try.prog W = .ok (.agg #[v, .bool false]) W := by
  subst h
  kernel_rfl
def emptyD (n : Nat) : List (List UInt8) := List.replicate n []
set_option maxRecDepth 100000 in
theorem newD_any (r : Int) (n : Nat) (hr : min (max r 1) 8 = (n : Int)) (w : World) : Calls Try.prog 50 #[.int .i64 r] w fun e w' => e = .returned (dP (w.heap.size + 1)) ∧ Dk w w' (w.heap.size + 1) w.heap.size n (List.replicate n (Value.slice none 0 0)) (emptyD n) false := by
  have h1 : 1 ≤ n := by omega
  have h8 : n ≤ 8 := by omega
  have hmk := make48 n (by omega)
  have hbd := fun W => build117 (.slice (some ⟨w.heap.size, 0, none⟩) n n) _ _ _ rfl W
  go_enter Try.func50, Try.ntmps50
  go_wp2_with fail
  go_ret
  have hg : ∀ i, i < n → (List.replicate n (Value.slice none 0 0)).getD i undef = .slice none 0 0 := fun i hi => by simp [List.getD_eq_getElem?_getD, hi]
  have hl : ∀ i, (emptyD n).getD i [] = [] := fun i => by
    unfold emptyD
    simp only [List.getD_eq_getElem?_getD, List.getElem?_replicate]
    split <;> rfl
  refine ⟨by simp, ⟨?_, ?_, by simp, by simp [emptyD], (fun i hi => by rw [hg i hi, hl]; exact Own.nil _ _ _), (fun i j hi hj hij k hk => by rw [hg i hi] at hk; cases hk), by simp, (fun i hi k hk => by rw [hg i hi] at hk; cases hk), ?_⟩⟩
  · have := Blk.new (w.alloc (.cells (List.replicate n (Value.slice none 0 0)).toArray 22)) 117 #[.slice (some ⟨w.heap.size, 0, none⟩) n n, .bool false]
    simpa using this
  · exact (Blk.new w 22 _).alloc _
  · exact ((Below.refl _ w).alloc (Nat.le_refl _) _).alloc (by simp) _
end Go.Proofs.Ytnlkjhhocehhaaa
