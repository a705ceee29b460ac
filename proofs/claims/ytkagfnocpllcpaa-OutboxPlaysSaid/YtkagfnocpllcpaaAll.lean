/- The library's sort over a row of at most 12 entries; All: the box's entries in the order that they fall due. -/
import Derived.Test.YtkagfnocpllcpaaSeq
import Derived.Test.YtkagfnocpllcpaaLives
namespace Go.Proofs.Ytkagfnocpllcpaa
set_option linter.unusedVariables false
open Go Go.RowKit Go.Proofs
set_option maxRecDepth 100000 in
set_option maxHeartbeats 1000000 in
theorem len64_any (m : Nat) (hm : m ≤ 12) (w : World) : Calls Try.prog 65 #[.int .u64 (m : Int)] w fun e w' => (∃ z : Int, e = .returned (.int .i64 z)) ∧ w = w' := by
  match m, hm with
  | 0, _ | 1, _ | 2, _ | 3, _ | 4, _ | 5, _ | 6, _ | 7, _ | 8, _ | 9, _ | 10, _ | 11, _ | 12, _ =>
    go_enter Try.func65, Try.ntmps65
    go_wp2_with fail
    go_ret
    exact ⟨⟨_, rfl⟩, rfl⟩
  | m + 13, h => omega
theorem bitsLen_any (m : Nat) (hm : m ≤ 12) (w : World) : Calls Try.prog 52 #[.int .u64 (m : Int)] w fun e w' => (∃ z : Int, e = .returned (.int .i64 z)) ∧ w = w' := by
  have HL := Lib.hid (len64_any m hm w)
  go_enter Try.func52, Try.ntmps52
  go_wp2_with (first
    | (go_at_call 65
       refine HL.out.mono ?_
       rintro e w2 ⟨⟨z, rfl⟩, rfl⟩)
    | fail)
  go_ret
  exact ⟨⟨_, rfl⟩, rfl⟩
set_option maxRecDepth 100000 in
set_option maxHeartbeats 1000000 in
theorem pdq_any (l : List E) (v : Value) (z : Int) (w : World) (h : Ents w v l) (hl : l.length ≤ 12) :
    Calls Try.prog 51 #[v, .int .i64 0, .int .i64 (l.length : Int), .int .i64 z, cmpV] w fun e w' => e = .returned (.tuple #[]) ∧ Ents w' v (isortL l) ∧ Fr (rowOf v) w w' := by
  have HS := Lib.hid (isort_any l v w h (by omega))
  obtain ⟨A, c, hv, hc1, hc2⟩ := h.shape
  obtain ⟨n, hn⟩ : ∃ n, n = l.length := ⟨_, rfl⟩
  rw [← hn] at hv hl HS ⊢
  subst hv
  have hd : decide ((n : Int) - 0 ≤ 12) = true := decide_eq_true (by omega)
  have hd2 : decide ((n : Int) ≤ 12) = true := decide_eq_true (by omega)
  clear h hn hc1
  go_enter Try.func51, Try.ntmps51
  go_wp2_with fail
  go_loopw [1, 2] (fun c1 c2 wr => c1 = .int .i64 0 ∧ c2 = .int .i64 (n : Int) ∧ wr = w) (fun _ _ _ => 0)
  case atStart => exact ⟨rfl, rfl, rfl⟩
  case round =>
    obtain ⟨rfl, rfl, rfl⟩ := hrel
    go_wp2_with (first
      | (go_at_call 56
         with_reducible refine HS.out.mono ?_
         rintro e w2 ⟨rfl, hE, hF⟩)
      | fail)
    refine bodyPost_ret (results_none rfl _ _ _) rfl ?_
    exact ⟨rfl, hE, hF⟩
set_option maxRecDepth 100000 in
set_option maxHeartbeats 1000000 in
theorem sortFunc_any (l : List E) (v : Value) (w : World) (h : Ents w v l) (hl : l.length ≤ 12) :
    Calls Try.prog 42 #[v, cmpV] w fun e w' => e = .returned (.tuple #[]) ∧ Ents w' v (isortL l) ∧ Fr (rowOf v) w w' := by
  have HS := Lib.hid (fun z => pdq_any l v z w h hl)
  have HL := Lib.hid (bitsLen_any l.length hl w)
  obtain ⟨A, c, hv, hc1, hc2⟩ := h.shape
  obtain ⟨n, hn⟩ : ∃ n, n = l.length := ⟨_, rfl⟩
  rw [← hn] at hv hl HS HL
  subst hv
  have h0 : (0 : Int) ≤ (n : Int) := by omega
  have h1 : (n : Int) < 18446744073709551616 := by omega
  clear h hn hc1
  go_enter Try.func42, Try.ntmps42
  go_wp2_with (first
    | (go_at_call 52
       refine HL.out.mono ?_
       rintro e w2 ⟨⟨z, rfl⟩, rfl⟩)
    | (go_at_call 51
       with_reducible refine (HS.out _).mono ?_
       rintro e w2 ⟨rfl, hE, hF⟩)
    | fail)
  go_end0
  exact ⟨rfl, hE, hF⟩
set_option maxRecDepth 100000 in
set_option maxHeartbeats 1000000 in
/-- SortedFunc over an iterator of a row's entries: a row of its own, sorted. -/
theorem sorted_any (l : List E) (hmax : l.length ≤ 12) (v : Value) (w : World) (Bs : Nat) (hBs : Bs < w.heap.size) (hc : w.cell? ⟨Bs, 0, none⟩ = some v) (hE : EntsB w.heap.size w v l) :
    Calls Try.prog 30 #[.func (.func 43) #[] #[.pointer (some ⟨Bs, 0, none⟩)], cmpV] w fun e w' => ∃ v', e = .returned v' ∧ Ents w' v' (isortL l) ∧ (∀ k, rowOf v' k → w.heap.size ≤ k) ∧ Below w.heap.size w w' := by
  have HC := Lib.hid (collect_any l (by omega) v w Bs hBs hc hE)
  clear hBs hc hE
  go_enter Try.func30, Try.ntmps30
  go_wp2_with (first
    | (go_at_call 41
       refine HC.out.mono ?_
       rintro e w2 ⟨v2, rfl, hr2, hb2⟩
       have hE2 : Ents w2 v2 l := Own.of_owns hr2
       have hrow : ∀ k, rowOf v2 k → w.heap.size ≤ k := fun k hk => (hr2.lt k hk).1
       obtain ⟨A2, c2, hv2, -, -⟩ := hE2.shape
       subst hv2)
    | (go_at_call 42
       refine (sortFunc_any l _ _ hE2 hmax).mono ?_
       rintro e w3 ⟨rfl, hE3, hF3⟩)
    | fail)
  go_ret
  exact ⟨_, rfl, hE3, hrow, hb2.trans (hF3.below hb2.size (fun k hk => hrow k hk))⟩
theorem values_any (a : Option Addr) (len cap : Nat) (w : World) :
    Calls Try.prog 31 #[.slice a len cap] w fun e w' => e = .returned (.func (.func 43) #[] #[.pointer (some ⟨w.heap.size, 0, none⟩)]) ∧ w' = w.alloc (.cells #[.slice a len cap] 56) :=
  callsIn_wide.1 (values_in Fence.wide 1 trivial rfl a len cap w)
set_option maxRecDepth 100000 in
set_option maxHeartbeats 1000000 in
/-- All: the entries in the order that they fall due, in a row of one's own; the box is left as it was. -/
theorem all_any (b : Nat) (v : Value) (l : List E) (now : Int) (w : World) (h : BoxA w b v l now) (hl : l.length ≤ 12) :
    Calls Try.prog 14 #[bP b] w fun e w' => ∃ v', e = .returned v' ∧ Ents w' v' (isortL l) ∧ (∀ k, rowOf v' k → w.heap.size ≤ k) ∧ Below w.heap.size w w' := by
  have hc := h.cell
  obtain ⟨A, c, hv, -, -⟩ := h.ents.shape
  have hlt : ∀ k, rowOf v k → k < w.heap.size := fun k hk => h.ents.lt hk
  have hE : EntsB (w.heap.size + 1) (w.alloc (.cells #[v] 56)) v l := ⟨h.ents.keep ((Below.refl _ w).alloc (Nat.le_refl _) _), fun k hk => Nat.lt_succ_of_lt (hlt k hk)⟩
  have hcb : (w.alloc (.cells #[v] 56)).cell? ⟨w.heap.size, 0, none⟩ = some v := (Blk.new w 56 #[v]).cell 0
  have hS := sorted_any l hl v (w.alloc (.cells #[v] 56)) w.heap.size (by simp) hcb (by rw [World.size_alloc]; exact hE)
  have hB := (Below.refl w.heap.size w).alloc (Nat.le_refl _) (.cells #[v] 56)
  have HS := Lib.hid hS
  have HB := Lib.hid hB
  subst hv
  clear h hE hcb hlt hS hB
  go_enter Try.func14, Try.ntmps14
  go_wp2_with (first
    | (go_at_call 31
       refine (values_any _ _ _ _).mono ?_
       rintro e w2 ⟨rfl, rfl⟩)
    | (go_at_call 30
       refine HS.out.mono ?_
       rintro e w2 ⟨v2, rfl, hE2, hr2, hb2⟩
       obtain ⟨A2, c2, hv2, -, -⟩ := hE2.shape
       subst hv2)
    | fail)
  go_ret
  exact ⟨_, rfl, hE2, fun k hk => Nat.le_trans (by simp) (hr2 k hk), HB.out.trans (hb2.mono (by simp))⟩
end Go.Proofs.Ytkagfnocpllcpaa
