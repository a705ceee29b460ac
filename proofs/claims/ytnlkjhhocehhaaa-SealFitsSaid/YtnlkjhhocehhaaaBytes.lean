/- The contract of digest.Bytes: signs that are read. -/
import Derived.Test.YtnlkjhhocehhaaaUnhex
import Derived.Test.YtnlkjhhocehhaaaFrame
import Derived.IntWalk
import Derived.Test.YtnlkjhhocehhaaaAdd
namespace Go.Proofs.Ytnlkjhhocehhaaa
set_option linter.unusedVariables false
open Go Go.RowKit Go.Proofs
theorem index_str (s : ByteArray) (l : List UInt8) (hs : s.data.toList = l) (i : Nat) (hi : i < l.length) (W : World) : (Instr.index 9 (.string s) (.int .i64 (i : Int))).run Try.prog W = .ok (.int .u8 (n8 (l.getD i 0))) W := by
  have hsz : s.size = l.length := by rw [← hs]; exact Array.length_toList.symm
  rw [run_index_string W 9 s .i64 i Try.underlying9, dif_pos ⟨by omega, by omega⟩]
  congr 2
  unfold n8
  congr 2
  simp only [Int.toNat_natCast]
  subst hs
  simp [ByteArray.getElem_eq_getElem_data] at hi ⊢
  simp [hi]
theorem Bytes.of_own {w : World} {A : Option Addr} {n c : Nat} {l : List UInt8} (h : Own w 5 1 (.slice A n c) l.length (byteVals l)) : Bytes w A l ∧ n = l.length := by
  rcases h.2 with ⟨hv, h0⟩ | ⟨g, o, cap, cur, hv, hb, h1, h2, h3, h4⟩
  · cases hv
    have : l = [] := List.eq_nil_of_length_eq_zero h0
    subst this
    exact ⟨Bytes.nil _ _, rfl⟩
  · cases hv
    exact ⟨⟨by simp [byteVals], fun _ => ⟨g, o, rfl, hb.lt, fun j u hj => by rw [hb.cell]; exact h4 j u hj⟩⟩, rfl⟩
/-- What digest.Bytes answers. -/
def BytesAns (w : World) (l : List UInt8) (e : Ending) (w' : World) : Prop :=
  Below w.heap.size w w' ∧ match unhex l with
    | none => e = .returned (.tuple #[.slice none 0 0, .int .i64 2])
    | some b => ∃ v, e = .returned (.tuple #[v, .int .i64 0]) ∧ Own w' 5 1 v b.length (byteVals b) ∧ ∀ k, rowOf v k → w.heap.size ≤ k
theorem bytesAns_none {w w' : World} {l : List UInt8} (hb : Below w.heap.size w w') (hu : unhex l = none) : BytesAns w l (.returned (.tuple #[.slice none 0 0, .int .i64 2])) w' := ⟨hb, by rw [hu]⟩
theorem bytesAns_some {w w' : World} {l b : List UInt8} {v : Value} (hb : Below w.heap.size w w') (hu : unhex l = some b) (ho : Own w' 5 1 v b.length (byteVals b)) (hr : ∀ k, rowOf v k → w.heap.size ≤ k) : BytesAns w l (.returned (.tuple #[v, .int .i64 0])) w' :=
  ⟨hb, by rw [hu]; exact ⟨v, rfl, ho, hr⟩⟩
/-- One round of the reading, at an even place. -/
theorem unhex_step' (s : List UInt8) (j : Nat) (l : List UInt8) (hj : j % 2 = 0) (hk : j + 2 ≤ s.length) (h : unhex (s.take j) = some l) :
    (0 ≤ ix (s.getD j 0) → 0 ≤ ix (s.getD (j + 1) 0) → unhex (s.take (j + 2)) = some (l ++ [comb (s.getD j 0) (s.getD (j + 1) 0)])) ∧
    ((ix (s.getD j 0) < 0 ∨ ix (s.getD (j + 1) 0) < 0) → unhex s = none) := by
  obtain ⟨k, rfl⟩ : ∃ k, j = 2 * k := ⟨j / 2, by omega⟩
  have := unhex_step s k l hk h
  rwa [show 2 * (k + 1) = 2 * k + 2 by omega] at this
theorem comb_run : ∀ (h l : Fin 16), IntKind.u8.wrap (bits .or .i64 (IntKind.i64.wrap ((h.val : Int) * 16)) (l.val : Int)) = ((16 * h.val + l.val : Nat) : Int) := by decide +kernel
theorem comb_wrap (x y : UInt8) (hx : 0 ≤ ix x) (hy : 0 ≤ ix y) : IntKind.u8.wrap (bits .or .i64 (IntKind.i64.wrap (ix x * 16)) (ix y)) = n8 (comb x y) := by
  have h1 := ix_bd x
  have h2 := ix_bd y
  have h := comb_run ⟨(ix x).toNat, by omega⟩ ⟨(ix y).toNat, by omega⟩
  have e1 : (((ix x).toNat : Nat) : Int) = ix x := Int.toNat_of_nonneg hx
  have e2 : (((ix y).toNat : Nat) : Int) = ix y := Int.toNat_of_nonneg hy
  simp only [e1, e2] at h
  rw [h]; unfold n8; rw [comb_val x y hx hy]
set_option maxRecDepth 100000 in
set_option maxHeartbeats 1000000 in
theorem bytes_any (s : ByteArray) (l : List UInt8) (w : World) (hs : s.data.toList = l) (hl : l.length ≤ 100000000) :
    Calls Try.prog 29 #[.string s] w fun e w' => BytesAns w l e w' := by
  have hsz : s.size = l.length := by rw [← hs]; exact Array.length_toList.symm
  obtain ⟨i0, hi0, hz0, hz1, hz2⟩ := info_parts info5
  by_cases hodd : l.length % 2 = 1
  · have hu := unhex_odd l hodd
    have hm : ((l.length : Int) % 2 != 0) = true := by simp; omega
    go_enter Try.func29, Try.ntmps29
    go_wp2_with fail
    go_ret2
    exact bytesAns_none (Below.refl _ _) hu
  · have hm : ((l.length : Int) % 2 != 0) = false := by simp; omega
    go_enter Try.func29, Try.ntmps29
    go_wp2_with fail
    go_loopw [4, 5, 6, 7] (fun c4 c5 _ _ wr => ∃ (j : Nat) (b : List UInt8), j ≤ l.length ∧ j % 2 = 0 ∧ c5 = .int .i64 (j : Int) ∧ unhex (l.take j) = some b ∧ Own wr 5 1 c4 b.length (byteVals b) ∧ (∀ k, rowOf c4 k → w.heap.size ≤ k) ∧ Below w.heap.size w wr) (fun _ c5 _ _ _ => l.length - (intOf c5).toNat)
    case atStart => exact ⟨0, [], by omega, rfl, rfl, rfl, Own.nil _ _ _, fun _ h => by (cases h), Below.refl _ _⟩
    case round =>
      obtain ⟨j, b, hj, hj2, rfl, hb, hown, hrow, hbel⟩ := hrel
      by_cases hlt : j < l.length
      · have hst := Lib.hid (unhex_step' l j b hj2 (by omega) hb)
        have i1 := index_str s l hs j hlt
        have i2 := index_str s l hs (j + 1) (by omega)
        obtain ⟨x, hx⟩ : ∃ x, x = l.getD j 0 := ⟨_, rfl⟩
        obtain ⟨y, hy⟩ : ∃ y, y = l.getD (j + 1) 0 := ⟨_, rfl⟩
        have hj0 : (0 : Int) ≤ (j : Int) := by omega
        have hj1 : (j : Int) < (l.length : Int) := by omega
        have hjw : IntKind.i64.wrap ((j : Int) + 1) = (j : Int) + 1 := IntWalk.i64_in _ (by omega)
        rw [show ((j + 1 : Nat) : Int) = (j : Int) + 1 by omega] at i2
        rw [← hx] at i1 hst
        rw [← hy] at i2 hst
        clear hx hy
        have hx0 : (n8 x).toNat.toUInt8 = x := by unfold n8; simp
        have hy0 : (n8 y).toNat.toUInt8 = y := by unfold n8; simp
        have hKx := fun W => Try.strings_IndexByte ⟨#[48, 49, 50, 51, 52, 53, 54, 55, 56, 57, 97, 98, 99, 100, 101, 102]⟩ (n8 x) W
        have hKy := fun W => Try.strings_IndexByte ⟨#[48, 49, 50, 51, 52, 53, 54, 55, 56, 57, 97, 98, 99, 100, 101, 102]⟩ (n8 y) W
        rw [hx0] at hKx
        rw [hy0] at hKy
        change ∀ W, Calls Try.prog 75 _ W fun e w' => e = .returned (.int .i64 (ix x)) ∧ w' = W at hKx
        change ∀ W, Calls Try.prog 75 _ W fun e w' => e = .returned (.int .i64 (ix y)) ∧ w' = W at hKy
        have bx := ix_bd x
        have by_ := ix_bd y
        have HKx := Lib.hid hKx
        have HKy := Lib.hid hKy
        clear hKx hKy hx0 hy0
        go_wp2_with fail
        refine wp_region_quiet_below (by kernel_rfl) (by kernel_rfl) ?_
        repeat (go_big_quiet_step (first
          | (go_at_call 75; exact regrown_same ((HKx.out _).mono fun _ _ h => ⟨h.1, h.2.symm⟩))
          | (go_at_call 75; exact regrown_same ((HKy.out _).mono fun _ _ h => ⟨h.1, h.2.symm⟩))))
        refine wpQuiet_nil ?_
        intro w1 hw1
        have hb1 := Re.below hw1
        clear hw1
        have hF1 : Below w.heap.size w w1 := hbel.trans (hb1.mono hbel.size)
        have hown1 : Own w1 5 1 u4 b.length (byteVals b) := hown.fr (Fr.of_below hb1 nob) (fun _ h => h.elim)
        obtain ⟨wq, rfl⟩ : ∃ wq : World, wq = w1 := ⟨_, rfl⟩
        by_cases hpx : ix x < 0
        · have hun := hst.out.2 (.inl hpx)
          go_wp2_with fail
          go_ret2
          exact bytesAns_none hF1 hun
        · by_cases hpy : ix y < 0
          · have hun := hst.out.2 (.inr hpy)
            go_wp2_with fail
            go_ret2
            exact bytesAns_none hF1 hun
          · have hst1 := hst.out.1 (by omega) (by omega)
            have hcv := comb_wrap x y (by omega) (by omega)
            rw [show IntKind.i64.wrap (ix x * 16) = ix x * 16 from IntWalk.i64_in _ (by omega), wrap_u8] at hcv
            have hbl : b.length ≤ 100000000 := by
              have := unhex_even _ _ hb
              rw [List.length_take] at this; omega
            have hsrc : Src (wq.alloc (.cells #[v8 (comb x y)] 5)) 1 (some ⟨wq.heap.size, 0, none⟩) 1 [v8 (comb x y)] := Src.of_new wq 5 #[v8 (comb x y)] 1 rfl
            have hown2 : Own (wq.alloc (.cells #[v8 (comb x y)] 5)) 5 1 u4 b.length (byteVals b) := hown1.fr ((Fr.refl nob _).alloc _) (fun _ h => h.elim)
            have Hst1 := Lib.hid hst1
            have Hb := Lib.hid hb
            clear hst1 hb hst HKx HKy hown
            go_wp2_with (first
              | (at_builtin; refine wpList_append_o _ rfl _ _ 22 rfl 5 i0 (.int .u8 0) 1 1 Try.underlying22 hi0 hz0 hz1 hz2 rfl (by omega) u4 b.length (byteVals b) rfl hown2 (some ⟨wq.heap.size, 0, none⟩) 1 1 [v8 (comb x y)] rfl hsrc (by simp [v8, Value.oneCell']) (by simp only [maxLen]; omega) (by omega) ?_
                 intro v1 w2 hown3 hf3 hr3)
              | fail)
            have hF2 : Below w.heap.size w w2 := (hF1.alloc hF1.size _).trans (hf3.below (by simp; have := hF1.size; omega) (fun k hk => hrow k hk))
            have hr4 : ∀ k, rowOf v1 k → w.heap.size ≤ k := fun k hk => (hr3 k hk).elim (hrow k) (fun h => by simp at h; have := hF1.size; omega)
            go_roundw
            case rel => exact ⟨j + 2, b ++ [comb x y], by omega, by omega, by go_num, Hst1.out, by rw [byteVals_append, List.length_append]; exact hown3, hr4, hF2⟩
            case measure => simp [intOf]; omega
      · obtain rfl : j = l.length := by omega
        rw [List.take_length] at hb
        have Hb := Lib.hid hb
        clear hb
        go_wp2_with fail
        go_ret2
        exact bytesAns_some hbel Hb.out hown hrow
end Go.Proofs.Ytnlkjhhocehhaaa
