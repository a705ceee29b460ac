/- The contract of the reference's Bytes. -/
import Derived.Test.YtnlkjhhocehhaaaRefHex
import Derived.Test.YtnlkjhhocehhaaaBytes
namespace Go.Proofs.Ytnlkjhhocehhaaa
set_option linter.unusedVariables false
open Go Go.RowKit Go.Proofs
/-- One sign is read into n. -/
def addSign (n : Nat) (c : UInt8) : Nat := if 0 ≤ ix c then n * 16 + (ix c).toNat else n
/-- .. of which the signs below d have been looked at. -/
def addSignTo (n : Nat) (c : UInt8) (d : Nat) : Nat := if 0 ≤ ix c ∧ ix c < d then n * 16 + (ix c).toNat else n
theorem addSignTo_16 (n : Nat) (c : UInt8) : addSignTo n c 16 = addSign n c := by
  have := ix_bd c
  unfold addSignTo addSign
  by_cases h : 0 ≤ ix c
  · rw [if_pos ⟨h, by omega⟩, if_pos h]
  · rw [if_neg (by omega), if_neg h]
theorem sign_eq_all : ∀ (d : Fin 16) (c : Fin 256), (signs.getD d.val 0 = UInt8.ofNat c.val) ↔ ix (UInt8.ofNat c.val) = (d.val : Int) := by decide +kernel
theorem sign_eq (d : Nat) (hd : d < 16) (c : UInt8) : (signs.getD d 0 = c) ↔ ix c = (d : Int) := by
  have := sign_eq_all ⟨d, hd⟩ ⟨c.toNat, u8_lt c⟩
  simpa only [UInt8.ofNat_toNat] using this
theorem addSignTo_hit (n : Nat) (c : UInt8) (d : Nat) (h : ix c = (d : Int)) : addSignTo n c (d + 1) = n * 16 + d ∧ addSignTo n c d = n := by
  unfold addSignTo
  rw [if_pos (by omega), if_neg (by omega), h]; simp
theorem addSignTo_miss (n : Nat) (c : UInt8) (d : Nat) (h : ix c ≠ (d : Int)) : addSignTo n c (d + 1) = addSignTo n c d := by
  unfold addSignTo
  by_cases h1 : 0 ≤ ix c ∧ ix c < d
  · rw [if_pos h1, if_pos (by omega)]
  · rw [if_neg h1, if_neg (by omega)]
theorem addSignTo_le (n : Nat) (c : UInt8) (d : Nat) : addSignTo n c d ≤ n * 16 + 15 := by
  have := ix_bd c
  unfold addSignTo; split <;> omega
theorem addSign_le (n : Nat) (c : UInt8) : addSign n c ≤ n * 16 + 15 := by rw [← addSignTo_16]; exact addSignTo_le _ _ _
/-- Two signs. -/
def pairOf (a b : UInt8) : UInt8 := UInt8.ofNat (addSign (addSign 0 a) b)
def lenient : List UInt8 → List UInt8
  | a :: b :: r => pairOf a b :: lenient r
  | _ => []
theorem pair_comb (a b : UInt8) (ha : 0 ≤ ix a) (hb : 0 ≤ ix b) : pairOf a b = comb a b := by
  unfold pairOf comb addSign
  rw [if_pos ha, if_pos hb]; congr 1; omega
theorem lenient_unhex : ∀ (s b : List UInt8), unhex s = some b → lenient s = b
  | [], b, h => by simp [unhex] at h; subst h; rfl
  | [_], b, h => by simp [unhex] at h
  | x :: y :: r, b, h => by
    rw [unhex] at h
    split at h
    · cases h
    · next hn =>
      obtain ⟨b', hb, rfl⟩ := Option.map_eq_some_iff.1 h
      rw [lenient, lenient_unhex r b' hb, pair_comb x y (by omega) (by omega)]
theorem lenient_hex (s : List UInt8) : (hexOf (lenient s) = s) ↔ ∃ b, unhex s = some b := by
  constructor
  · intro h
    exact ⟨lenient s, by conv => lhs; rw [← h]
                         exact unhex_hex _⟩
  · rintro ⟨b, hb⟩
    rw [lenient_unhex s b hb, hex_unhex s b hb]
theorem lenient_step : ∀ (k : Nat) (s : List UInt8), 2 * k + 2 ≤ s.length → lenient (s.take (2 * k + 2)) = lenient (s.take (2 * k)) ++ [pairOf (s.getD (2 * k) 0) (s.getD (2 * k + 1) 0)]
  | 0, s, h => by
    match s, h with
    | a :: b :: r, _ => simp [lenient]
    | [_], h => simp at h
    | [], h => simp at h
  | k + 1, s, h => by
    match s, h with
    | a :: b :: r, h =>
      have ih := lenient_step k r (by simp at h; omega)
      rw [show 2 * (k + 1) + 2 = (2 * k + 2) + 1 + 1 by omega, show 2 * (k + 1) = 2 * k + 1 + 1 by omega]
      simp only [List.take_succ_cons, lenient, ih, List.cons_append, List.getD_cons_succ]
    | [_], h => simp at h
    | [], h => simp at h
theorem lenient_all (s : List UInt8) (j : Nat) (h : j % 2 = 0) (h1 : j ≤ s.length) (h2 : ¬ j + 1 < s.length) : lenient (s.take j) = lenient s := by
  have : ∀ (k : Nat) (s : List UInt8), 2 * k ≤ s.length → s.length ≤ 2 * k + 1 → lenient (s.take (2 * k)) = lenient s := by
    intro k
    induction k with
    | zero => intro s _ h; match s, h with
              | [], _ => rfl
              | [_], _ => rfl
              | _ :: _ :: _, h => simp at h
    | succ k ih => intro s h h'; match s, h, h' with
                   | a :: b :: r, h, h' =>
                     rw [show 2 * (k + 1) = 2 * k + 1 + 1 by omega]
                     simp only [List.take_succ_cons, lenient]
                     rw [ih r (by simp at h; omega) (by simp at h'; omega)]
                   | [_], h, _ => simp at h; omega
                   | [], h, _ => simp at h
  obtain ⟨k, rfl⟩ : ∃ k, j = 2 * k := ⟨j / 2, by omega⟩
  exact this k s h1 (by omega)
theorem length_lenient (s : List UInt8) : 2 * (lenient s).length ≤ s.length := by
  have : ∀ s : List UInt8, 2 * (lenient s).length ≤ s.length := by
    intro s
    induction s using lenient.induct with
    | case1 a b r ih => simp only [lenient, List.length_cons]; omega
    | case2 s h => unfold lenient; split <;> simp_all
  exact this s
theorem pair_conv (n : Nat) : IntKind.u8.wrap (n : Int) = n8 (UInt8.ofNat n) := by
  rw [wrap_u8]; unfold n8; rw [UInt8.toNat_ofNat']; omega
/-- The number after t signs from j on. -/
def nAt (l : List UInt8) (j t : Nat) : Nat := ((l.drop j).take t).foldl addSign 0
theorem nAt_succ (l : List UInt8) (j t : Nat) (h : j + t < l.length) : nAt l j (t + 1) = addSign (nAt l j t) (l.getD (j + t) 0) := by
  unfold nAt
  rw [List.take_succ_eq_append_getElem (by rw [List.length_drop]; omega), List.foldl_append]
  simp [h]
theorem nAt_le (l : List UInt8) (j t : Nat) (h : j + t ≤ l.length) : nAt l j t + 1 ≤ 16 ^ t := by
  induction t with
  | zero => simp [nAt]
  | succ t ih =>
    rw [nAt_succ l j t (by omega), Nat.pow_succ]
    have := ih (by omega)
    have := addSign_le (nAt l j t) (l.getD (j + t) 0)
    omega
theorem nAt_two (l : List UInt8) (j : Nat) (h : j + 1 < l.length) : UInt8.ofNat (nAt l j 2) = pairOf (l.getD j 0) (l.getD (j + 1) 0) := by
  rw [nAt_succ l j 1 (by omega), nAt_succ l j 0 (by omega)]; rfl
theorem index_sign64 (d : Nat) (h : d < 16) (W : World) : (Instr.index 9 (.string { data := #[48, 49, 50, 51, 52, 53, 54, 55, 56, 57, 97, 98, 99, 100, 101, 102] }) (.int .i64 (d : Int))).run Try.prog W = .ok (.int .u8 (n8 (signs.getD d 0))) W := index_str _ signs rfl d h W
set_option maxRecDepth 100000 in
set_option maxHeartbeats 2000000 in
theorem refbytes_any (s : ByteArray) (l : List UInt8) (w : World) (hs : s.data.toList = l) (hl : l.length ≤ 100000000) :
    Calls Try.prog 30 #[.string s] w fun e w' => BytesAns w l e w' := by
  obtain ⟨i0, hi0, hz0, hz1, hz2⟩ := info_parts info5
  have hsz : s.size = l.length := by rw [← hs]; exact Array.length_toList.symm
  go_enter Try.func30, Try.ntmps30
  go_wp2_with fail
  go_loopw [4, 5, 6, 7, 8] (fun c4 c5 _ _ _ wr => ∃ j : Nat, j ≤ l.length ∧ j % 2 = 0 ∧ c5 = .int .i64 (j : Int) ∧ Own wr 5 1 c4 (lenient (l.take j)).length (byteVals (lenient (l.take j))) ∧ (∀ k, rowOf c4 k → w.heap.size ≤ k) ∧ Below w.heap.size w wr) (fun _ c5 _ _ _ _ => l.length - (intOf c5).toNat)
  case atStart => exact ⟨0, by omega, rfl, rfl, Own.nil _ _ _, fun _ h => by (cases h), Below.refl _ _⟩
  case round =>
    obtain ⟨j, hj, hj2, rfl, hown, hrow, hbel⟩ := hrel
    by_cases hlt : j + 1 < l.length
    · have hdec : decide ((j : Int) + 1 < l.length) = true := by simp; omega
      have hjl : (j : Int) + 1 < (l.length : Int) := by omega
      go_wp2_with fail
      obtain ⟨wo, rfl⟩ : ∃ wo : World, wo = wr := ⟨_, rfl⟩
      go_loopw [6, 7, 8] (fun c6 c7 _ wi => ∃ t : Nat, t ≤ 2 ∧ c6 = .int .i64 (nAt l j t : Int) ∧ c7 = .int .i64 ((j : Int) + t) ∧ Below wo.heap.size wo wi) (fun _ c7 _ _ => (j + 2 : Nat) - (intOf c7).toNat)
      case atStart => exact ⟨0, by omega, rfl, by simp, Below.refl _ _⟩
      case round =>
        obtain ⟨t, ht, rfl, rfl, hbi⟩ := hrel
        by_cases ht2 : t < 2
        · have hnb := nAt_le l j t (by omega)
          have hnb2 : nAt l j t ≤ 15 := by
            have : (16 : Nat) ^ t ≤ 16 ^ 1 := Nat.pow_le_pow_right (by omega) (by omega)
            omega
          have ix1 := index_str s l hs (j + t) (by omega)
          rw [show ((j + t : Nat) : Int) = (j : Int) + t by omega] at ix1
          have hns := nAt_succ l j t (by omega)
          obtain ⟨x, hx⟩ : ∃ x, x = l.getD (j + t) 0 := ⟨_, rfl⟩
          obtain ⟨N, hN⟩ : ∃ N, N = nAt l j t := ⟨_, rfl⟩
          rw [← hx] at ix1 hns
          rw [← hN] at hns hnb2 ⊢
          have HN := Lib.hid hN
          have Hns := Lib.hid hns
          clear hx hN hns hnb
          have hd2 : decide ((j : Int) + t < (j : Int) + 2) = true := by simp; omega
          have ht2' : (t : Int) < 2 := by omega
          go_wp2_with fail
          obtain ⟨wp, rfl⟩ : ∃ wp : World, wp = wr := ⟨_, rfl⟩
          go_loopw [6, 8] (fun c6 c8 wd => ∃ d : Nat, d ≤ 16 ∧ c8 = .int .i64 (d : Int) ∧ c6 = .int .i64 (addSignTo N x d : Int) ∧ Below wp.heap.size wp wd) (fun _ c8 _ => 16 - (intOf c8).toNat)
          case atStart => exact ⟨0, by omega, rfl, by unfold addSignTo; rw [if_neg (by omega)], Below.refl _ _⟩
          case round =>
            obtain ⟨d, hd, rfl, rfl, hbd⟩ := hrel
            by_cases hd16 : d < 16
            · have ix2 := index_sign64 d hd16
              have hnd := addSignTo_le N x d
              have hd0 : (0 : Int) ≤ (d : Int) := by omega
              have hd1 : (d : Int) < 16 := by omega
              have hse := sign_eq d hd16 x
              obtain ⟨sg, hsg⟩ : ∃ sg, sg = signs.getD d 0 := ⟨_, rfl⟩
              rw [← hsg] at hse ix2
              clear hsg
              by_cases hit : ix x = (d : Int)
              · have hq : (n8 sg == n8 x) = true := by rw [n8_beq, hse.2 hit]; simp
                obtain ⟨h1, h2⟩ := addSignTo_hit N x d hit
                rw [h2]
                have H1 := Lib.hid h1
                clear h1 h2 hit hnd hse
                go_wp2_with fail
                refine wp_region_quiet_below (by kernel_rfl) (by kernel_rfl) ?_
                repeat (go_big_quiet_step (fail))
                refine wpQuiet_nil ?_
                intro w1 hw1
                have hbd1 : Below wp.heap.size wp w1 := hbd.trans ((Re.below hw1).mono hbd.size)
                clear hw1
                go_wp2_with fail
                go_roundw
                case rel => exact ⟨d + 1, by omega, by go_num, by rw [H1.out]; go_num, hbd1⟩
                case measure => simp [intOf]; omega
              · have hq : (n8 sg == n8 x) = false := by rw [n8_beq]; simpa using fun h => hit (hse.1 h)
                have H1 := Lib.hid (addSignTo_miss N x d hit)
                obtain ⟨M, hM⟩ : ∃ M, M = addSignTo N x d := ⟨_, rfl⟩
                rw [← hM] at hnd ⊢
                have HM := Lib.hid hM
                clear hit hM hse
                go_wp2_with fail
                refine wp_region_quiet_below (by kernel_rfl) (by kernel_rfl) ?_
                repeat (go_big_quiet_step (fail))
                refine wpQuiet_nil ?_
                intro w1 hw1
                have hbd1 : Below wp.heap.size wp w1 := hbd.trans ((Re.below hw1).mono hbd.size)
                clear hw1
                go_wp2_with fail
                go_roundw
                case rel => exact ⟨d + 1, by omega, by go_num, by rw [H1.out, ← HM.out], hbd1⟩
                case measure => simp [intOf]; omega
            · obtain rfl : d = 16 := by omega
              rw [addSignTo_16]
              obtain ⟨M, hM⟩ : ∃ M, M = addSign N x := ⟨_, rfl⟩
              rw [← hM]
              have HM := Lib.hid hM
              clear hM
              go_wp2_with fail
              go_roundw
              case rel => exact ⟨t + 1, by omega, by rw [Hns.out, ← HM.out], by go_num, hbi.trans (hbd.mono hbi.size)⟩
              case measure => simp [intOf]; omega
        · obtain rfl : t = 2 := by omega
          have hn2 := nAt_two l j hlt
          obtain ⟨N, hN⟩ : ∃ N, N = nAt l j 2 := ⟨_, rfl⟩
          rw [← hN] at hn2 ⊢
          have hnb := nAt_le l j 2 (by omega)
          rw [← hN] at hnb
          have hcv := pair_conv N
          rw [hn2] at hcv
          obtain ⟨y, hy⟩ : ∃ y, y = pairOf (l.getD j 0) (l.getD (j + 1) 0) := ⟨_, rfl⟩
          rw [← hy] at hcv
          have hcv2 := hcv
          rw [wrap_u8] at hcv2
          have hLn : lenient (l.take (j + 2)) = lenient (l.take j) ++ [y] := by
            obtain ⟨k, rfl⟩ : ∃ k, j = 2 * k := ⟨j / 2, by omega⟩
            rw [lenient_step k l (by omega), hy]
          have hbl := length_lenient (l.take j)
          rw [List.length_take] at hbl
          obtain ⟨b, hb⟩ : ∃ b, b = lenient (l.take j) := ⟨_, rfl⟩
          rw [← hb] at hown hLn hbl
          have HLn := Lib.hid hLn
          have hbl2 : b.length ≤ 100000000 := by omega
          have hB1 : Below w.heap.size w wr := hbel.trans (hbi.mono hbel.size)
          have hown2 : Own (wr.alloc (.cells #[v8 y] 5)) 5 1 u4 b.length (byteVals b) := hown.fr ((Fr.of_below hbi nob).alloc _) (fun _ h => h.elim)
          have hsrc : Src (wr.alloc (.cells #[v8 y] 5)) 1 (some ⟨wr.heap.size, 0, none⟩) 1 [v8 y] := Src.of_new wr 5 #[v8 y] 1 rfl
          clear hN hn2 hnb hy hLn hb hown hbl
          go_wp2_with (first
            | (at_builtin; refine wpList_append_o _ rfl _ _ 22 rfl 5 i0 (.int .u8 0) 1 1 Try.underlying22 hi0 hz0 hz1 hz2 rfl (by omega) u4 b.length (byteVals b) rfl hown2 (some ⟨wr.heap.size, 0, none⟩) 1 1 [v8 y] rfl hsrc (by simp [v8, Value.oneCell']) (by simp only [maxLen]; omega) (by omega) ?_
               intro v1 w2 hown3 hf3 hr3)
            | fail)
          have hF2 : Below w.heap.size w w2 := (hB1.alloc hB1.size _).trans (hf3.below (by simp; have := hB1.size; omega) (fun k hk => hrow k hk))
          have hr4 : ∀ k, rowOf v1 k → w.heap.size ≤ k := fun k hk => (hr3 k hk).elim (hrow k) (fun h => by simp at h; have := hB1.size; omega)
          go_roundw
          case rel => exact ⟨j + 2, by omega, by omega, by go_num, by rw [HLn.out, byteVals_append, List.length_append]; exact hown3, hr4, hF2⟩
          case measure => simp [intOf]; omega
    · have hall := lenient_all l j hj2 hj hlt
      rw [hall] at hown
      have hdec : decide ((j : Int) + 1 < l.length) = false := by simp; omega
      have hbl := length_lenient l
      obtain ⟨b, hb⟩ : ∃ b, b = lenient l := ⟨_, rfl⟩
      rw [← hb] at hown hbl
      have hbl2 : b.length ≤ 100000000 := by omega
      obtain ⟨A, cap, rfl, hc1, hc2⟩ := hown.shape
      have hby := (Bytes.of_own hown).1
      have HK := Lib.hid (refhex_any A b.length cap b wr rfl hby hbl2)
      have Hb := Lib.hid hb
      have hto : s.toList = l := by rw [ByteArray.toList_eq, hs]
      have hto2 : ∀ a : Array UInt8, (ByteArray.mk a).toList = a.toList := fun a => by rw [ByteArray.toList_eq]
      have Hto := Lib.hid hto
      clear hall hbl
      by_cases hh : hexOf b = l
      · have hqq : (hexOf b == s.toList) = true := by rw [hto, hh]; simp
        have hqq2 : (hexOf b == l) = true := by rw [hh]; simp
        have hu : unhex l = some b := by rw [← hh]; exact unhex_hex b
        have Hu := Lib.hid hu
        clear hto hb hh hu
        go_wp2_with (first
          | (go_at_call 32
             refine HK.out.mono ?_
             rintro e w3 ⟨rfl, hb3⟩)
          | fail)
        go_ret2
        exact bytesAns_some (hbel.trans (hb3.mono hbel.size)) Hu.out (hown.fr (Fr.of_below hb3 nob) (fun _ h => h.elim)) hrow
      · have hqq : (hexOf b == s.toList) = false := by rw [hto]; simpa using hh
        have hqq2 : (hexOf b == l) = false := by simpa using hh
        have hu : unhex l = none := by
          rcases hul : unhex l with _ | b'
          · rfl
          · exact absurd ((lenient_hex l).2 ⟨b', hul⟩) (by rw [← hb]; exact hh)
        have Hu := Lib.hid hu
        clear hto hb hh hu
        go_wp2_with (first
          | (go_at_call 32
             refine HK.out.mono ?_
             rintro e w3 ⟨rfl, hb3⟩)
          | fail)
        go_ret2
        exact bytesAns_none (hbel.trans (hb3.mono hbel.size)) Hu.out
end Go.Proofs.Ytnlkjhhocehhaaa
