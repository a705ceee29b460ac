/- The contract of the reference's Words: the words are those that are reckoned from primes. -/
import Derived.Test.YtnlkjhhocehhaaaPrimes
import Derived.Test.YtnlkjhhocehhaaaRootsAll

namespace Go.Proofs.Ytnlkjhhocehhaaa
set_option linter.unusedVariables false
open Go Go.RowKit Go.Proofs Sha
theorem root2w (i : Nat) (h : i < 8) (W : World) :
    Calls Try.prog 70 #[.int .u64 ((primes64.getD i 0 : Nat) : Int), .int .i64 2] W fun e w' => e = .returned (.int .u32 (n32 (init.list.getD i 0))) ∧ Below W.heap.size W w' := by
  have := root_any (primes64.getD i 0) 2 W (by omega) (by omega)
  rw [root2_at i h] at this
  exact this
theorem root3w (i : Nat) (h : i < 64) (W : World) :
    Calls Try.prog 70 #[.int .u64 ((primes64.getD i 0 : Nat) : Int), .int .i64 3] W fun e w' => e = .returned (.int .u32 (n32 (K.getD i 0))) ∧ Below W.heap.size W w' := by
  have := root_any (primes64.getD i 0) 3 W (by omega) (by omega)
  rw [root3_at i h] at this
  exact this
structure WO (w W : World) (q : Nat) (A : Option Addr) : Prop where
  p : U64s W A primes64
  h : Blk W q 94 (stCells init)
  k : Blk W (q + 1) 96 keyCells
  bel : Below w.heap.size w W
theorem WO.keep {w W W' : World} {q : Nat} {A : Option Addr} (h : WO w W q A) (hb : Below W.heap.size W W') : WO w W' q A :=
  ⟨h.p.keep hb, h.h.below hb h.h.lt, h.k.below hb h.k.lt, h.bel.trans (hb.mono h.bel.size)⟩
set_option maxRecDepth 100000 in
set_option maxHeartbeats 2000000 in
theorem words_any (w : World) :
    Calls Try.prog 22 #[] w fun e w' => e = .returned (.bool true) ∧ Below w.heap.size w w' := by
  go_enter Try.func22, Try.ntmps22
  go_wp2_with (first
    | (go_at_call 67
       refine (primes_any _).mono ?_
       rintro e w1 ⟨⟨A, cp, rfl, hP1⟩, hb1⟩)
    | (go_at_call 68
       refine (rstart_any _).mono ?_
       rintro e w2 ⟨rfl, hb2⟩
       have hP2 := hP1.keep hb2
       have hB2 : Below w.heap.size w w2 := hb1.trans (hb2.mono hb1.size))
    | (go_at_call 69
       refine (rkeys_any _).mono ?_
       rintro e w3 ⟨rfl, hb3⟩
       have hP3 := hP2.keep hb3
       have hB3 : Below w.heap.size w w3 := hB2.trans (hb3.mono hB2.size))
    | (with_reducible refine wpList_alloc_run rfl 94 rfl zero8 alloc94 ?_)
    | (with_reducible refine wpList_alloc_run rfl 96 rfl zero64 alloc96 ?_)
    | (refine wpList_store_blk rfl 94 (.tmp 2) (.tmp 6) rfl w3.heap.size 94 zero8 (stCells init) rfl rfl ((Blk.new w3 94 zero8).alloc _) rfl (info94 _) (one_st _) ?_
       intro w4 hb44 hf4
       have hs4 : (w3.alloc (.cells zero8 94)).heap.size = w3.heap.size + 1 := by simp
       have h44 : Blk w4 (w3.heap.size + 1) 96 zero64 := by
         rw [← hs4]; exact (Blk.new (w3.alloc (.cells zero8 94)) 96 zero64).fr hf4 (by unfold one; omega)
       have hb34 : Below w3.heap.size w3 w4 := (((Below.refl _ w3).alloc (Nat.le_refl _) _).alloc (by simp) _).trans (hf4.below (by simp; omega) (fun k hk => by unfold one at hk; omega)))
    | (refine wpList_store_blk rfl 96 (.tmp 3) (.tmp 7) rfl (w3.heap.size + 1) 96 zero64 keyCells rfl rfl h44 (by decide +kernel) info96 key_one ?_
       intro w5 hb55 hf5
       have hb35 : Below w3.heap.size w3 w5 := hb34.trans (hf5.below hb34.size (fun k hk => by unfold one at hk; omega))
       have hWO : WO w w5 w3.heap.size A := ⟨hP3.keep hb35, hb44.fr hf5 (by unfold one; omega), hb55, hB3.trans (hb35.mono hB3.size)⟩
       simp only [Act.put, List.setIfInBounds_toArray, List.set_cons_zero, List.set_cons_succ])
    | fail)
  obtain ⟨q, hq⟩ : ∃ q, q = w3.heap.size := ⟨_, rfl⟩
  rw [← hq] at hWO ⊢
  clear hq hb35 hb55 hf5 hb34 h44 hs4 hb44 hf4 hP3 hB3 hP2 hB2 hP1 hb1 hb2 hb3
  go_loopw [4] (fun c4 wr => ∃ i : Nat, i ≤ 64 ∧ c4 = .int .i64 i ∧ WO w wr q A) (fun c4 _ => 64 - (intOf c4).toNat)
  case atStart => exact ⟨0, by omega, rfl, hWO⟩
  case round =>
    clear hWO
    obtain ⟨i, hi, rfl, hR⟩ := hrel
    by_cases hi64 : i < 64
    · have hd : decide ((i : Int) < 64) = true := decide_eq_true (by omega)
      have hk := hR.k.cell i
      rw [show keyCells[i]? = some (.int .u32 (n32 (K.getD i 0))) from by
        have hk : K.length = 64 := rfl
        simp [keyCells, v32, List.getElem?_eq_getElem (show i < K.length by omega)]] at hk
      obtain ⟨g, off, rfl, hg, hp⟩ := hR.p.at_ i (by rw [show primes64.length = 64 from primes_len.1]; exact hi64)
      have lk := hR.k.lt
      have HC3 := Lib.hid (root3w i hi64)
      obtain ⟨x, hx⟩ : ∃ x, x = primes64.getD i 0 := ⟨_, rfl⟩
      obtain ⟨k, hkk⟩ : ∃ k, k = K.getD i 0 := ⟨_, rfl⟩
      rw [← hx] at hp HC3
      rw [← hkk] at hk HC3
      have hnk : (n32 k != n32 k) = false := by simp
      by_cases hi8 : i < 8
      · have hd8 : decide ((i : Int) < 8) = true := decide_eq_true (by omega)
        have hh := hR.h.cell i
        rw [stCells_at init i hi8] at hh
        have lh := hR.h.lt
        have HC2 := Lib.hid (root2w i hi8)
        obtain ⟨y, hy⟩ : ∃ y, y = init.list.getD i 0 := ⟨_, rfl⟩
        rw [← hx, ← hy] at HC2
        rw [← hy] at hh
        have hny : (n32 y != n32 y) = false := by simp
        clear hx hkk hy
        go_wp2_with fail
        refine wp_region_quiet_below (by kernel_rfl) (by kernel_rfl) ?_
        repeat (go_big_quiet_step (first
          | (go_at_call 70; with_reducible exact regrown_below (HC2.out _))
          | (go_at_call 70; with_reducible exact regrown_below (HC3.out _))))
        refine wpQuiet_nil ?_
        intro w6 hw6
        have hb6 := Re.below hw6
        clear hw6
        go_wp2_with fail
        go_roundw
        case rel => exact ⟨i + 1, by omega, by go_num, hR.keep hb6⟩
        case measure => simp [intOf]; omega
      · have hd8 : decide ((i : Int) < 8) = false := decide_eq_false (by omega)
        clear hx hkk
        go_wp2_with fail
        refine wp_region_quiet_below (by kernel_rfl) (by kernel_rfl) ?_
        repeat (go_big_quiet_step (first
          | (go_at_call 70; with_reducible exact regrown_below (HC3.out _))))
        refine wpQuiet_nil ?_
        intro w6 hw6
        have hb6 := Re.below hw6
        clear hw6
        go_wp2_with fail
        go_roundw
        case rel => exact ⟨i + 1, by omega, by go_num, hR.keep hb6⟩
        case measure => simp [intOf]; omega
    · obtain rfl : i = 64 := by omega
      go_wp2_with fail
      go_ret
      exact ⟨rfl, hR.bel⟩
end Go.Proofs.Ytnlkjhhocehhaaa
