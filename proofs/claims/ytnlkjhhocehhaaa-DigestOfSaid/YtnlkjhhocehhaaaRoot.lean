/- The contract of the reference's root: the first 32 bits of the fraction of a root. -/
import Derived.Test.YtnlkjhhocehhaaaTimes
namespace Go.Proofs.Ytnlkjhhocehhaaa
set_option linter.unusedVariables false
open Go Go.RowKit Go.Proofs Sha
theorem U64s.keep {w w' : World} {A : Option Addr} {l : List Nat} (h : U64s w A l) (hb : Below w.heap.size w w') : U64s w' A l :=
  h.below hb (fun g o hl hA => by obtain ⟨g', o', h1, h2, _⟩ := h.2 hl; rw [hA] at h1; cases h1; exact h2)
def bitN (t : Nat) : Nat := 1099511627776 / 2 ^ t
theorem bitN_succ (t : Nat) : bitN (t + 1) = bitN t / 2 := by unfold bitN; rw [Nat.div_div_eq_div_mul, Nat.pow_succ]
theorem bitN_pow (t : Nat) (h : t ≤ 40) : bitN t = 2 ^ (40 - t) := by
  unfold bitN
  rw [show 1099511627776 = 2 ^ 40 from rfl, Nat.pow_div h (by omega)]
theorem bitN_pos (t : Nat) (h : t ≤ 40) : 0 < bitN t := by rw [bitN_pow t h]; exact Nat.two_pow_pos _
theorem bitN_end : bitN 41 = 0 := by decide
theorem length_powL (x : Nat) : ∀ j, (powL x j).length = 3 * (j + 1)
  | 0 => rfl
  | j + 1 => by rw [powL, length_timesL, length_powL x j]; simp [oneOf]; omega
theorem rootAt_succ (p n t : Nat) (h : t ≤ 40) : rootAt p n (t + 1) = if aboveL (powL (rootAt p n t + bitN t) (n - 1)) (wholeOf p n) then rootAt p n t else rootAt p n t + bitN t := by
  rw [rootAt, bitN_pow t h]
theorem rootAt_bd (p n : Nat) : ∀ t, t ≤ 41 → rootAt p n t + 2 * bitN t ≤ 2199023255552
  | 0, _ => by simp [rootAt, bitN]
  | t + 1, h => by
    have ih := rootAt_bd p n t (by omega)
    rw [rootAt_succ p n t (by omega), bitN_succ]
    split <;> omega
theorem one_cells (x : Nat) (h : x ≤ 2199023255552) : #[Value.int .u64 ((x : Int) % 65536), .int .u64 ((IntKind.u64.wrap ((x : Int) / 65536)).tmod 65536), .int .u64 (IntKind.u64.wrap ((x : Int) / 4294967296))] = (vals64 (oneOf x)).toArray := by
  have e1 : IntKind.u64.wrap ((x : Int) / 65536) = ((x / 65536 : Nat) : Int) := by rw [wrapU64]; omega
  have e2 : IntKind.u64.wrap ((x : Int) / 4294967296) = ((x / 4294967296 : Nat) : Int) := by rw [wrapU64]; omega
  rw [e1, e2]
  rfl
theorem whole_set (p n : Nat) : (List.replicate (2 * n + 1) 0).set (2 * n) p = wholeOf p n := by
  unfold wholeOf
  rw [List.replicate_succ', List.set_append_right _ _ (by simp)]
  simp
set_option maxRecDepth 100000 in
set_option maxHeartbeats 2000000 in
theorem root_any (p n : Nat) (w : World) (hn1 : 2 ≤ n) (hn2 : n ≤ 3) :
    Calls Try.prog 70 #[.int .u64 (p : Int), .int .i64 (n : Int)] w fun e w' => e = .returned (.int .u32 (rootL p n : Nat)) ∧ Below w.heap.size w w' := by
  obtain ⟨i0, hi0, hz0, hz1, hz2⟩ := info_parts info35
  go_enter Try.func70, Try.ntmps70
  have hz3 : (2 * (n : Int)).toNat = 2 * n := by omega
  have hz4 : (0 : Int) ≤ 2 * (n : Int) := by omega
  have hz5 : 2 * (n : Int) < 2 * (n : Int) + 1 := by omega
  have hb0 : Blk (w.alloc (.cells (vals64 (List.replicate (2 * n + 1) 0)).toArray 35)) w.heap.size 35 (vals64 (List.replicate (2 * n + 1) 0)).toArray := Blk.new _ _ _
  have c0 := vals64_cell hb0 (2 * n) (by simp)
  have f0 := hb0.frozen (2 * n)
  go_wp2_with (first
    | (refine wpList_make_row _ rfl (.tmp 14) (.tmp 14) 91 rfl 35 i0 (.int .u64 0) Try.underlying91 hi0 hz0 hz1 rfl .i64 .i64 (2 * n + 1) rfl rfl (by rw [hz2]; omega) (by omega) ?_
       rw [made64])
    | fail)
  have hW : U64s (w.alloc (.cells ((vals64 (List.replicate (2 * n + 1) 0)).set (2 * n) (.int .u64 (p : Int))).toArray 35)) (some ⟨w.heap.size, 0, none⟩) (wholeOf p n) := by
    have e : (vals64 (List.replicate (2 * n + 1) 0)).set (2 * n) (.int .u64 (p : Int)) = vals64 (wholeOf p n) := by rw [← whole_set]; simp [vals64, List.map_set]
    rw [e]
    exact ⟨by simp [vals64], fun _ => ⟨_, 0, rfl, by simp, fun j u hj => by rw [(Blk.new w 35 (vals64 (wholeOf p n)).toArray).cell, Nat.zero_add]; simpa using hj⟩⟩
  obtain ⟨W, hWd⟩ : ∃ W, W = w.alloc (.cells ((vals64 (List.replicate (2 * n + 1) 0)).set (2 * n) (.int .u64 (p : Int))).toArray 35) := ⟨_, rfl⟩
  have hB : Below w.heap.size w W := by rw [hWd]; exact (Below.refl _ w).alloc (Nat.le_refl _) _
  rw [← hWd] at hW ⊢
  clear hWd hb0 c0 f0 hi0 hz0 hz1 hz2 hz3 hz4 hz5
  have hlw : (wholeOf p n).length = 2 * n + 1 := by simp [wholeOf]
  have HLW := Lib.hid hlw
  clear hlw
  go_loopw [6, 7, 8, 9, 10, 11] (fun c6 c7 _ _ _ _ wr => ∃ t : Nat, t ≤ 41 ∧ c6 = .int .u64 ((rootAt p n t : Nat) : Int) ∧ c7 = .int .u64 ((bitN t : Nat) : Int) ∧ U64s wr (some ⟨w.heap.size, 0, none⟩) (wholeOf p n) ∧ Below w.heap.size w wr) (fun _ c7 _ _ _ _ _ => (intOf c7).toNat)
  case atStart => exact ⟨0, by omega, rfl, rfl, hW, hB⟩
  case round =>
    clear hW hB
    obtain ⟨t, ht, rfl, rfl, hW, hB⟩ := hrel
    by_cases ht40 : t ≤ 40
    · have hp := bitN_pos t ht40
      have hbd := rootAt_bd p n t ht
      have hst := rootAt_succ p n t ht40
      obtain ⟨lo, hlo⟩ : ∃ lo, lo = rootAt p n t := ⟨_, rfl⟩
      obtain ⟨bt, hbt⟩ : ∃ bt, bt = bitN t := ⟨_, rfl⟩
      obtain ⟨x, hx⟩ : ∃ x, x = lo + bt := ⟨_, rfl⟩
      rw [← hlo, ← hbt] at hbd
      rw [← hlo, ← hbt, ← hx] at hst
      rw [← hbt] at hp
      rw [← hlo, ← hbt]
      have ex : IntKind.u64.wrap ((lo : Int) + (bt : Int)) = (x : Int) := by rw [wrapU64]; omega
      have hx41 : x ≤ 2199023255552 := by omega
      have HX := Lib.hid hx41
      have HXe := Lib.hid hx
      have HBD := Lib.hid hbd
      have HST := Lib.hid hst
      have HLO := Lib.hid hlo
      have HBT := Lib.hid hbt
      clear hx41 hbd hst hlo hbt hx
      have hd : decide ((0 : Int) < (bt : Int)) = true := decide_eq_true (by omega)
      obtain ⟨wo, rfl⟩ : ∃ wo : World, wo = wr := ⟨_, rfl⟩
      go_wp2_with fail
      have hO : U64s (wo.alloc (.cells #[.int .u64 ((x : Int) % 65536), .int .u64 ((IntKind.u64.wrap ((x : Int) / 65536)).tmod 65536), .int .u64 (IntKind.u64.wrap ((x : Int) / 4294967296))] 35)) (some ⟨wo.heap.size, 0, none⟩) (oneOf x) := by
        have e : #[Value.int .u64 ((x : Int) % 65536), .int .u64 ((IntKind.u64.wrap ((x : Int) / 65536)).tmod 65536), .int .u64 (IntKind.u64.wrap ((x : Int) / 4294967296))] = (vals64 (oneOf x)).toArray := one_cells x HX.out
        rw [e]
        exact ⟨by simp [vals64], fun _ => ⟨_, 0, rfl, by simp, fun j u hj => by rw [(Blk.new wo 35 (vals64 (oneOf x)).toArray).cell, Nat.zero_add]; simpa using hj⟩⟩
      obtain ⟨V, hV⟩ : ∃ V, V = wo.alloc (.cells #[.int .u64 ((x : Int) % 65536), .int .u64 ((IntKind.u64.wrap ((x : Int) / 65536)).tmod 65536), .int .u64 (IntKind.u64.wrap ((x : Int) / 4294967296))] 35) := ⟨_, rfl⟩
      obtain ⟨q, hq⟩ : ∃ q, q = wo.heap.size := ⟨_, rfl⟩
      have hbV : Below wo.heap.size wo V := by rw [hV]; exact (Below.refl _ wo).alloc (Nat.le_refl _) _
      have hWV := hW.keep hbV
      have hBV := hB.trans (hbV.mono hB.size)
      rw [← hV] at hO ⊢
      rw [← hq] at hO ⊢
      clear hV hq hbV hW hB ex
      go_loopw [10, 11] (fun c10 c11 wr => ∃ j : Nat, j + 1 ≤ n ∧ c11 = .int .i64 ((j + 1 : Nat) : Int) ∧ ∃ A' cp, c10 = .slice A' (3 * (j + 1)) cp ∧ U64s wr A' (powL x j) ∧ U64s wr (some ⟨q, 0, none⟩) (oneOf x) ∧ U64s wr (some ⟨w.heap.size, 0, none⟩) (wholeOf p n) ∧ Below w.heap.size w wr) (fun _ c11 _ => n - (intOf c11).toNat)
      case atStart => exact ⟨0, by omega, rfl, some ⟨q, 0, none⟩, 3, rfl, hO, hO, hWV, hBV⟩
      case round =>
        clear hO hWV hBV
        obtain ⟨j, hj, rfl, A', cp, rfl, hP, hO, hW, hB⟩ := hrel
        by_cases hjn : j + 1 < n
        · have hdj : decide (((j + 1 : Nat) : Int) < (n : Int)) = true := decide_eq_true (by omega)
          have HT := Lib.hid (times_any (powL x j) (oneOf x) A' (some ⟨q, 0, none⟩) (3 * (j + 1)) cp 3 3 wr (length_powL x j).symm rfl hP hO (by omega) (by omega))
          go_wp2_with (first
            | (go_at_call 86
               refine HT.out.mono ?_
               rintro e w1 ⟨rfl, hb1, hP1⟩)
            | fail)
          go_roundw
          case rel => exact ⟨j + 1, by omega, by go_num, some ⟨wr.heap.size, 0, none⟩, 3 * (j + 1) + 3, by rw [show 3 * (j + 1) + 3 = 3 * (j + 1 + 1) by omega], hP1, hO.keep hb1, hW.keep hb1, hB.trans (hb1.mono hB.size)⟩
          case measure => simp [intOf]; omega
        · obtain rfl : j = n - 1 := by omega
          have hdj : decide (((n - 1 + 1 : Nat) : Int) < (n : Int)) = false := decide_eq_false (by omega)
          have HA := Lib.hid (above_any (powL x (n - 1)) (wholeOf p n) A' (some ⟨w.heap.size, 0, none⟩) (3 * (n - 1 + 1)) cp (2 * n + 1) (2 * n + 1) wr (length_powL x (n - 1)).symm HLW.out.symm hP hW (by omega) (by omega))
          have HST2 := HST
          obtain ⟨b, hb⟩ : ∃ b, b = aboveL (powL x (n - 1)) (wholeOf p n) := ⟨_, rfl⟩
          rw [← hb] at HA HST2
          have HBb := Lib.hid hb
          clear hb
          have hbs := bitN_succ t
          rw [← HBT.out] at hbs
          have HBS := Lib.hid hbs
          clear hbs
          cases b with
          | true =>
            go_wp2_with (first
              | (go_at_call 87
                 refine HA.out.mono ?_
                 rintro e w1 ⟨rfl, rfl⟩)
              | fail)
            go_roundw
            case rel => exact ⟨t + 1, by omega, by rw [HST2.out]; rfl, by rw [HBS.out]; exact congrArg (Value.int .u64) (by rw [wrapU64]; have := HBD.out; omega), hW, hB⟩
            case measure => show (IntKind.u64.wrap ((bt : Int) / 2)).toNat < ((bt : Int)).toNat; rw [wrapU64]; have := HBD.out; omega
          | false =>
            go_wp2_with (first
              | (go_at_call 87
                 refine HA.out.mono ?_
                 rintro e w1 ⟨rfl, rfl⟩)
              | fail)
            go_roundw
            case rel => exact ⟨t + 1, by omega, by rw [HST2.out]; rfl, by rw [HBS.out]; exact congrArg (Value.int .u64) (by rw [wrapU64]; have := HBD.out; omega), hW, hB⟩
            case measure => show (IntKind.u64.wrap ((bt : Int) / 2)).toNat < ((bt : Int)).toNat; rw [wrapU64]; have := HBD.out; omega
    · obtain rfl : t = 41 := by omega
      rw [bitN_end]
      obtain ⟨lo, hlo⟩ : ∃ lo, lo = rootAt p n 41 := ⟨_, rfl⟩
      rw [← hlo]
      have hrl : rootL p n = lo % 4294967296 := by rw [hlo]; rfl
      have HR := Lib.hid hrl
      clear hlo hrl
      go_wp2_with fail
      go_ret
      rw [HR.out]
      exact ⟨congrArg (fun z => Ending.returned (.int .u32 z)) (by omega), hB⟩
end Go.Proofs.Ytnlkjhhocehhaaa
