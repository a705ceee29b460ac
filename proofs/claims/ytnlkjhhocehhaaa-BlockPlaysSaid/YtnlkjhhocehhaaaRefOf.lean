/- The contract of the reference's Of: the digest by definition. -/
import Derived.Test.YtnlkjhhocehhaaaRefRound
import Derived.Test.YtnlkjhhocehhaaaLaw2a
import Derived.Test.YtnlkjhhocehhaaaGrow
import Derived.Test.YtnlkjhhocehhaaaFrame
namespace Go.Proofs.Ytnlkjhhocehhaaa
set_option linter.unusedVariables false
open Go Go.RowKit Go.Proofs Sha
/-- What stands in memory: the result's variable, the words so far, the words of the rounds. -/
structure RO (w W : World) (p : Nat) (s : St) : Prop where
  r0 : Blk W w.heap.size 25 zeroOut
  r3 : Blk W p 94 (stCells s)
  r4 : Blk W (p + 1) 96 keyCells
  bel : Below w.heap.size w W
  lt : w.heap.size < p
theorem RO.keep {w W W' : World} {p : Nat} {s : St} (h : RO w W p s) (hb : Below W.heap.size W W') : RO w W' p s :=
  ⟨h.r0.below hb h.r0.lt, h.r3.below hb h.r3.lt, h.r4.below hb h.r4.lt, h.bel.trans (hb.mono h.bel.size), h.lt⟩
theorem RO.app {w W W' : World} {p n : Nat} {s : St} {v : Value} {xs : List Value} (h : RO w W p s) (ho : Own W 5 1 v n xs) (hf : Fr (rowOf v) W W') (hr : ∀ k, rowOf v k → w.heap.size ≤ k) : RO w W' p s :=
  ⟨h.r0.fr hf (ho.blk_ne h.r0 (by decide)), h.r3.fr hf (ho.blk_ne h.r3 (by decide)), h.r4.fr hf (ho.blk_ne h.r4 (by decide)), h.bel.trans (hf.below h.bel.size hr), h.lt⟩
theorem RO.alloc {w W : World} {p : Nat} {s : St} (h : RO w W p s) (o : Obj) : RO w (W.alloc o) p s := h.keep ((Below.refl _ _).alloc (Nat.le_refl _) _)
def lenOfV : Value → Nat
  | .slice _ n _ => n
  | _ => 0
/-- A slice of bytes that grows. -/
structure Grows (w W : World) (v : Value) (l : List UInt8) : Prop where
  own : Own W 5 1 v l.length (byteVals l)
  row : ∀ k, rowOf v k → w.heap.size ≤ k
theorem Grows.keep {w W W' : World} {v : Value} {l : List UInt8} (h : Grows w W v l) (hb : Below W.heap.size W W') : Grows w W' v l :=
  ⟨h.own.fr (Fr.of_below hb nob) (fun _ h => h.elim), h.row⟩
theorem lenOf_own {w : World} {e : TypeId} {s n : Nat} {v : Value} {xs : List Value} (h : Own w e s v n xs) : lenOfV v = n := by
  obtain ⟨A, c, rfl, _, _⟩ := h.shape; rfl
theorem Regrown.blk {w : World} {g : Nat} {t : TypeId} {cs : Array Value} (h : Blk w g t cs) : ∀ W, (∃ p : Regrown, W = Sort.grow (redrawn w p.d) p.os) → Blk W g t cs := fun W ⟨p, hp⟩ => by
  rw [hp]; exact h.below (below_regrown w p.d p.os) h.lt
theorem u64_div256 (m : Nat) : ((m : Int)).tdiv 256 = ((m / 256 : Nat) : Int) := by
  rw [Int.tdiv_eq_ediv_of_nonneg (by omega)]; rfl
set_option maxRecDepth 100000 in
set_option maxHeartbeats 4000000 in
theorem rof_any (x : List UInt8) (A : Option Addr) (n c : Nat) (w : World) (hn : n = x.length) (hx : Bytes w A x) (hl : x.length ≤ 400000000) :
    Calls Try.prog 24 #[.slice A n c] w fun e w' => e = .returned (.agg (byteVals (sha x)).toArray) ∧ Below w.heap.size w w' := by
  obtain ⟨i0, hi0, hz0, hz1, hz2⟩ := info_parts info5
  have Hn := Lib.hid hn
  have hn4 : n ≤ 400000000 := by omega
  clear hn
  go_enter Try.func24, Try.ntmps24
  go_wp2_with (first
    | (with_reducible refine wpList_alloc_run rfl 25 rfl zeroOut alloc25 ?_)
    | (go_at_call 68
       refine (rstart_any _).mono ?_
       rintro e w1 ⟨rfl, hb1⟩
       have hB1 : Below w.heap.size w w1 := ((Below.refl _ _).alloc (Nat.le_refl _) _).trans (hb1.mono (by simp))
       have h01 : Blk w1 w.heap.size 25 zeroOut := (Blk.new w 25 zeroOut).below hb1 (by simp))
    | (go_at_call 69
       refine (rkeys_any _).mono ?_
       rintro e w2 ⟨rfl, hb2⟩
       have hB2 : Below w.heap.size w w2 := hB1.trans (hb2.mono hB1.size)
       have h02 := h01.below hb2 h01.lt)
    | (with_reducible refine wpList_alloc_run rfl 94 rfl zero8 alloc94 ?_)
    | (with_reducible refine wpList_alloc_run rfl 96 rfl zero64 alloc96 ?_)
    | (refine wpList_store_blk rfl 94 (.tmp 3) (.tmp 15) rfl w2.heap.size 94 zero8 (stCells init) rfl rfl ((Blk.new w2 94 zero8).alloc _) rfl (info94 _) (one_st _) ?_
       intro w3 hb33 hf3
       have hs43 : (w2.alloc (.cells zero8 94)).heap.size = w2.heap.size + 1 := by simp
       have h43 : Blk w3 (w2.alloc (.cells zero8 94)).heap.size 96 zero64 := (Blk.new (w2.alloc (.cells zero8 94)) 96 zero64).fr hf3 (by unfold one; omega)
       have h03 := ((h02.alloc (.cells zero8 94)).alloc (.cells zero64 96)).fr hf3 (by unfold one; have := h02.lt; omega)
       have hB3 : Below w.heap.size w w3 := ((hB2.alloc hB2.size _).alloc (by simp; have := hB2.size; omega) _).trans (hf3.below (by simp; have := hB2.size; omega) (fun k hk => by unfold one at hk; have := hB2.size; omega)))
    | (refine wpList_store_blk rfl 96 (.tmp 4) (.tmp 16) rfl (w2.alloc (.cells zero8 94)).heap.size 96 zero64 keyCells rfl rfl h43 (by decide +kernel) info96 key_one ?_
       intro w4 hb44 hf4
       have hRO0 : RO w w4 w2.heap.size init := ⟨h03.fr hf4 (by unfold one; have := h02.lt; omega), hb33.fr hf4 (by unfold one; omega), by rw [hs43] at hb44; exact hb44, hB3.trans (hf4.below hB3.size (fun k hk => by unfold one at hk; have := hB2.size; omega)), h02.lt⟩
       simp only [Act.put, List.setIfInBounds_toArray, List.set_cons_zero, List.set_cons_succ])
    | (at_builtin
       first
       | (refine wpList_append_o _ rfl (.const (.slice none 0 0)) (.tmp 17) 22 rfl 5 i0 (.int .u8 0) 1 1 Try.underlying22 hi0 hz0 hz1 hz2 rfl (by omega) (.slice none 0 0) 0 [] rfl (Own.nil _ _ _) A n c (byteVals x) rfl (by have := hx.keep hRO0.bel; unfold Bytes at this; rwa [← Hn.out] at this) (byteVals_one _) (by simp only [maxLen]; omega) (by omega) ?_
          intro v1 w5 hown5 hf5 hr5
          rw [Nat.zero_add, List.nil_append] at hown5
          have hRO1 : RO w w5 w2.heap.size init := hRO0.app (Own.nil _ 5 1) hf5 (fun k hk => by cases hk)
          have hr5' : ∀ k, rowOf v1 k → w.heap.size ≤ k := fun k hk => (hr5 k hk).elim (fun h => by cases h) (fun h => by have := hRO0.bel.size; omega)
          have hown5' : Own (w5.alloc (.cells #[.int .u8 128] 5)) 5 1 v1 n (byteVals x) := hown5.fr ((Fr.refl nob _).alloc _) (fun _ h => h.elim)
          have hsrc5 : Src (w5.alloc (.cells #[.int .u8 128] 5)) 1 (some ⟨w5.heap.size, 0, none⟩) 1 [.int .u8 128] := Src.of_new w5 5 #[.int .u8 128] 1 rfl)
       | (refine wpList_append_o _ rfl (.tmp 18) (.tmp 19) 22 rfl 5 i0 (.int .u8 0) 1 1 Try.underlying22 hi0 hz0 hz1 hz2 rfl (by omega) v1 n (byteVals x) rfl hown5' (some ⟨w5.heap.size, 0, none⟩) 1 1 [.int .u8 128] rfl hsrc5 (by simp [Value.oneCell']) (by simp only [maxLen]; omega) (by omega) ?_
          intro v2 w6 hown6 hf6 hr6
          have hRO2 : RO w w6 w2.heap.size init := (hRO1.alloc _).app hown5' hf6 hr5'
          have hG : Grows w w6 v2 (x ++ 128 :: List.replicate 0 0) := ⟨by
            rw [byteVals_append, List.length_append, ← Hn.out]; exact hown6, fun k hk => (hr6 k hk).elim (hr5' k) (fun h => by have := hRO1.bel.size; simp at h; omega)⟩))
    | fail)
  have hrl : (restOf x).length = x.length % 64 := length_restOf x
  obtain ⟨Z, hZ⟩ : ∃ Z, Z = zeros x.length := ⟨_, rfl⟩
  have hZ64 : Z < 64 := by rw [hZ]; unfold zeros; omega
  have hZ' : ∀ j, j ≤ Z → ((n + 1 + j) % 64 = 56 ↔ j = Z) := by
    intro j hj; rw [hZ] at hj ⊢; have := Hn.out; unfold zeros at hj ⊢; omega
  have HZ' := Lib.hid hZ'
  have HZ := Lib.hid hZ
  obtain ⟨p, hp⟩ : ∃ p, p = w2.heap.size := ⟨_, rfl⟩
  rw [← hp] at hRO2 ⊢
  clear hZ hZ' hrl hp hRO1 hRO0 hown5' hsrc5 hr5' hown5 hf5 hr5 hown6 hf6 hr6 hb44 hf4 hb33 hf3 h43 hs43 h03 hB3 h02 hB2 hb2 h01 hB1 hb1
  go_loopw [5] (fun c5 wr => ∃ j : Nat, j ≤ Z ∧ RO w wr p init ∧ Grows w wr c5 (x ++ 128 :: List.replicate j 0)) (fun c5 _ => n + 1 + Z - lenOfV c5)
  case atStart => exact ⟨0, by omega, hRO2, hG⟩
  case round =>
    clear hRO2 hG
    obtain ⟨j, hj, hR, hG⟩ := hrel
    obtain ⟨N, hN⟩ : ∃ N, N = n + 1 + j := ⟨_, rfl⟩
    have hlen : (x ++ 128 :: List.replicate j (0 : UInt8)).length = N := by rw [List.length_append, ← Hn.out, hN]; simp; omega
    obtain ⟨Y, hY⟩ : ∃ Y, Y = x ++ 128 :: List.replicate j (0 : UInt8) := ⟨_, rfl⟩
    rw [← hY] at hG hlen
    have hown := hG.own
    rw [hlen] at hown
    obtain ⟨A2, cap2, hv, hc1, hc2⟩ := hown.shape
    subst hv
    have hrow := hG.row
    have HN := Lib.hid hN
    have HY := Lib.hid hY
    have Hlen := Lib.hid hlen
    have hNb : N ≤ 400000100 := by omega
    clear hN hY hlen hG
    by_cases hjZ : j < Z
    · have hn56 : ((N : Int) % 64 != 56) = true := by
        have h := HZ'.out j hj
        have hN := HN.out
        rw [bne_iff_ne]; intro h2
        have : (n + 1 + j) % 64 = 56 := by omega
        have := h.1 this; omega
      have hown' : Own (wr.alloc (.cells #[.int .u8 0] 5)) 5 1 (.slice A2 N cap2) N (byteVals Y) := hown.fr ((Fr.refl nob _).alloc _) (fun _ h => h.elim)
      have hsrc' : Src (wr.alloc (.cells #[.int .u8 0] 5)) 1 (some ⟨wr.heap.size, 0, none⟩) 1 [.int .u8 0] := Src.of_new wr 5 #[.int .u8 0] 1 rfl
      go_wp2_with (first
        | (at_builtin
           refine wpList_append_o _ rfl (.tmp 25) (.tmp 26) 22 rfl 5 i0 (.int .u8 0) 1 1 Try.underlying22 hi0 hz0 hz1 hz2 rfl (by omega) (.slice A2 N cap2) N (byteVals Y) rfl hown' (some ⟨wr.heap.size, 0, none⟩) 1 1 [.int .u8 0] rfl hsrc' (by simp [Value.oneCell']) (by simp only [maxLen]; omega) (by omega) ?_
           intro v3 w7 hown7 hf7 hr7)
        | fail)
      go_roundw
      case rel =>
        refine ⟨j + 1, by omega, (hR.alloc _).app hown' hf7 hrow, ?_, fun k hk => (hr7 k hk).elim (hrow k) (fun h => by have := hR.bel.size; simp at h; omega)⟩
        have e : x ++ 128 :: List.replicate (j + 1) (0 : UInt8) = Y ++ [0] := by rw [HY.out, List.replicate_succ']; simp
        rw [e, byteVals_append, List.length_append, Hlen.out]
        exact hown7
      case measure =>
        have h1 := lenOf_own hown7
        have h2 := lenOf_own hown
        show n + 1 + Z - lenOfV v3 < n + 1 + Z - N
        have := HN.out
        omega
    · obtain rfl : j = Z := by omega
      have hn56 : ((N : Int) % 64 != 56) = false := by
        have h := (HZ'.out j hj).2 rfl
        have hN := HN.out
        rw [bne_eq_false_iff_eq]; omega
      obtain ⟨wo, rfl⟩ : ∃ wo : World, wo = wr := ⟨_, rfl⟩
      go_wp2_with fail
      obtain ⟨b, hb⟩ : ∃ b : Nat, b = 8 * n := ⟨_, rfl⟩
      have hbi : (n : Int) * 8 = (b : Int) := by omega
      rw [hbi]
      have hb64 : b ≤ 3200000000 := by omega
      have Hb := Lib.hid hb
      have hG0 : Grows w wo (.slice A2 N cap2) (Y ++ (List.range 0).map (be8 b)) := ⟨by simpa [Hlen.out] using hown, hrow⟩
      clear hbi hb hown hn56 hc1 hc2
      go_loopw [5, 7, 8, 9] (fun c5 c7 _ _ wr => ∃ t : Nat, t ≤ 8 ∧ c7 = .int .i64 (7 - (t : Int)) ∧ RO w wr p init ∧ Grows w wr c5 (Y ++ (List.range t).map (be8 b))) (fun _ c7 _ _ _ => (intOf c7 + 1).toNat)
      case atStart => exact ⟨0, by omega, rfl, hR, hG0⟩
      case round =>
        clear hR hG0
        obtain ⟨t, ht, rfl, hR, hG⟩ := hrel
        by_cases ht8 : t < 8
        · have hd : decide ((0 : Int) ≤ 7 - (t : Int)) = true := decide_eq_true (by omega)
          obtain ⟨wq, rfl⟩ : ∃ wq : World, wq = wr := ⟨_, rfl⟩
          obtain ⟨X, hX⟩ : ∃ X, X = Y ++ (List.range t).map (be8 b) := ⟨_, rfl⟩
          rw [← hX] at hG
          have HX := Lib.hid hX
          clear hX
          obtain ⟨N3, hN3⟩ : ∃ N3, N3 = X.length := ⟨_, rfl⟩
          have hown := hG.own
          rw [← hN3] at hown
          have hN3b : N3 ≤ 400000200 := by rw [hN3, HX.out, List.length_append, Hlen.out]; simp; omega
          have HN3 := Lib.hid hN3
          obtain ⟨A3, cap3, hv3, -, -⟩ := hown.shape
          subst hv3
          have hrow3 := hG.row
          clear hN3 hG
          go_wp2_with fail
          go_loopw [8, 9] (fun c8 c9 wr => ∃ j : Nat, j ≤ 7 - t ∧ c8 = .int .u64 ((b / 256 ^ j : Nat) : Int) ∧ c9 = .int .i64 j ∧ wr = wq) (fun _ c9 _ => 7 - (intOf c9).toNat)
          case atStart => exact ⟨0, by omega, by simp, rfl, rfl⟩
          case round =>
            obtain ⟨j, hj, rfl, rfl, rfl⟩ := hrel
            obtain ⟨m, hm⟩ : ∃ m, m = b / 256 ^ j := ⟨_, rfl⟩
            rw [← hm]
            have hm64 : m ≤ 3200000000 := by rw [hm]; exact Nat.le_trans (Nat.div_le_self _ _) hb64
            have hm1 : b / 256 ^ (j + 1) = m / 256 := by rw [hm, Nat.div_div_eq_div_mul, Nat.pow_succ]
            have HM1 := Lib.hid hm1
            have HM := Lib.hid hm
            clear hm1 hm
            by_cases hjt : j < 7 - t
            · have hd2 : decide ((j : Int) < 7 - (t : Int)) = true := decide_eq_true (by omega)
              go_wp2_with fail
              go_roundw
              case rel => exact ⟨j + 1, by omega, by rw [HM1.out]; first | done | rfl, by go_num, trivial⟩
              case measure => simp [intOf]; omega
            · have hd2 : decide ((j : Int) < 7 - (t : Int)) = false := decide_eq_false (by omega)
              have hjt' : j = 7 - t := by omega
              have hbe : ((m : Int) % 256) = n8 (be8 b t) := by
                unfold n8 be8
                rw [UInt8.toNat_ofNat', HM.out, hjt', show (256 : Nat) ^ (7 - t) = 2 ^ (56 - 8 * t) by rw [show (256 : Nat) = 2 ^ 8 from rfl, ← Nat.pow_mul]; congr 1; omega]
                omega
              clear hjt'
              obtain ⟨y, hy⟩ : ∃ y, y = be8 b t := ⟨_, rfl⟩
              rw [← hy] at hbe
              have Hy := Lib.hid hy
              clear hy
              have hown' : Own (wr.alloc (.cells #[.int .u8 (n8 y)] 5)) 5 1 (.slice A3 N3 cap3) N3 (byteVals X) := hown.fr ((Fr.refl nob _).alloc _) (fun _ h => h.elim)
              have hsrc' : Src (wr.alloc (.cells #[.int .u8 (n8 y)] 5)) 1 (some ⟨wr.heap.size, 0, none⟩) 1 [.int .u8 (n8 y)] := Src.of_new wr 5 #[.int .u8 (n8 y)] 1 rfl
              go_wp2_with (first
                | (at_builtin
                   refine wpList_append_o _ rfl (.tmp 44) (.tmp 48) 22 rfl 5 i0 (.int .u8 0) 1 1 Try.underlying22 hi0 hz0 hz1 hz2 rfl (by omega) (.slice A3 N3 cap3) N3 (byteVals X) rfl hown' (some ⟨wr.heap.size, 0, none⟩) 1 1 [.int .u8 (n8 y)] rfl hsrc' (by simp [Value.oneCell']) (by simp only [maxLen]; omega) (by omega) ?_
                   intro v3 w7 hown7 hf7 hr7)
                | fail)
              go_roundw
              case rel =>
                refine ⟨t + 1, by omega, by go_num, (hR.alloc _).app hown' hf7 hrow3, ?_, fun k hk => (hr7 k hk).elim (hrow3 k) (fun h => by have := hR.bel.size; simp at h; omega)⟩
                have e : Y ++ (List.range (t + 1)).map (be8 b) = X ++ [y] := by rw [HX.out, Hy.out, List.range_succ]; simp
                rw [e, byteVals_append, List.length_append, ← HN3.out]
                exact hown7
              case measure => simp [intOf]; omega
        · have hd : decide ((0 : Int) ≤ 7 - (t : Int)) = false := decide_eq_false (by omega)
          obtain rfl : t = 8 := by omega
          obtain ⟨wq, rfl⟩ : ∃ wq : World, wq = wr := ⟨_, rfl⟩
          obtain ⟨M, hM⟩ : ∃ M, M = Y ++ (List.range 8).map (be8 b) := ⟨_, rfl⟩
          rw [← hM] at hG
          have hpad : M = pad x := by
            rw [hM, HY.out, Hb.out, HZ.out, Hn.out]; unfold pad lenBytes; simp
          have HP := Lib.hid hpad
          clear hM hpad
          obtain ⟨L, hL⟩ : ∃ L, L = M.length := ⟨_, rfl⟩
          have hL64 : L % 64 = 0 := by rw [hL, HP.out]; exact length_pad x
          have hLb : L ≤ 400000200 := by
            rw [hL, HP.out]; unfold pad lenBytes zeros; simp; omega
          have hown := hG.own
          rw [← hL] at hown
          obtain ⟨A3, cap3, hv3, hcp1, hcp2⟩ := hown.shape
          subst hv3
          have HL := Lib.hid hL
          clear hL hG
          go_wp2_with fail
          have hL0 : 0 < L := by rw [HL.out, HP.out]; unfold pad; simp; omega
          obtain ⟨bg, bo, cap4, hv4, hbg, hrw, hcell⟩ := hown.cells hL0
          injection hv4 with hA3 _ hcap4
          subst hA3 hcap4
          have hML : ∀ j, j < L → wq.cell? ⟨bg, bo + j, none⟩ = some (.int .u8 (n8 (M.getD j 0))) := fun j hj => hcell j _ (byteVals_get M j (by rw [← HL.out]; exact hj))
          have HML := Lib.hid hML
          have hcap3 : cap3 ≤ 9223372036854775807 := by unfold maxLen at hcp2; exact hcp2
          have hbp : bg ≠ p := fun h => hown.blk_ne hR.r3 (by decide) (h ▸ hrw)
          clear hcell hML hrw hown
          rw [show (7 - ((8 : Nat) : Int)) = -1 from rfl]
          go_loopw [10] (fun c10 wr => ∃ k : Nat, 64 * k ≤ L ∧ c10 = .int .i64 ((64 * k : Nat) : Int) ∧ RO w wr p (absorb k init M) ∧ (∀ j, j < L → wr.cell? ⟨bg, bo + j, none⟩ = some (.int .u8 (n8 (M.getD j 0)))) ∧ bg < wr.heap.size ∧ bg ≠ p) (fun c10 _ => L - (intOf c10).toNat)
          case atStart => exact ⟨0, by omega, rfl, hR, HML.out, hbg, hbp⟩
          case round =>
            clear hR hbg hbp
            obtain ⟨k, hk, rfl, hR, hM, hbg, hbp⟩ := hrel
            obtain ⟨at_, hat⟩ : ∃ a, a = 64 * k := ⟨_, rfl⟩
            rw [← hat] at hk ⊢
            have Hat := Lib.hid hat
            obtain ⟨S, hS⟩ : ∃ S, S = absorb k init M := ⟨_, rfl⟩
            rw [← hS] at hR
            have HS := Lib.hid hS
            by_cases hlt : at_ < L
            · have hd : decide ((at_ : Int) < (L : Int)) = true := decide_eq_true (by omega)
              have h64 : at_ + 64 ≤ L := by omega
              have hz1 : (at_ : Int) + 64 ≤ (cap3 : Int) := by omega
              have hz0 : (0 : Int) ≤ (at_ : Int) := by omega
              have hz2 : (at_ : Int) ≤ (at_ : Int) + 64 := by omega
              have hz3 : ((at_ : Int) + 64).toNat = at_ + 64 := by omega
              have hz4 : at_ + 64 - at_ = 64 := by omega
              have hne : ¬ cap3 = at_ := by omega
              have hne' : ¬ at_ = cap3 := by omega
              clear hat hS
              obtain ⟨wo, rfl⟩ : ∃ wo : World, wo = wr := ⟨_, rfl⟩
              go_wp2_with fail
              refine wp_region_pre 7 1 (by kernel_rfl) (by kernel_rfl) rfl ?_
              simp only [List.take_succ_cons, List.take_zero, List.drop_succ_cons, List.drop_zero]
              go_big_quiet_want
              refine quiet_load_blk 94 (.tmp 3) rfl p 94 (stCells S) _ rfl (Regrown.blk hR.r3) Try.underlying94 rfl (info94 S) ?_
              go_big_quiet_on
              simp only [Act.put, List.setIfInBounds_toArray, List.set_cons_zero, List.set_cons_succ]
              go_big_quiet_want
              refine quiet_load_blk 96 (.tmp 4) rfl (p + 1) 96 keyCells _ rfl (Regrown.blk hR.r4) Try.underlying96 rfl info96 ?_
              go_big_quiet_on
              simp only [Act.put, List.setIfInBounds_toArray, List.set_cons_zero, List.set_cons_succ]
              repeat (go_big_quiet_step (fail))
              refine wpQuiet_nil ?_
              intro w8 hb8
              have hR8 := hR.keep hb8
              have hK8 : Calls Try.prog 71 #[.agg (stCells S), .agg keyCells, .slice (some ⟨bg, bo + at_, none⟩) 64 (cap3 - at_)] w8 fun e w' => e = .returned (.agg (stCells (compress S ((M.drop at_).take 64)))) ∧ Below w8.heap.size w8 w' := rround_any S ((M.drop at_).take 64) bg (bo + at_) (cap3 - at_) w8 (by rw [List.length_take, List.length_drop, ← HL.out]; omega) (Nat.lt_of_lt_of_le hbg hb8.size) (fun j hj => by
                have h1 := hM (at_ + j) (by omega)
                rw [Nat.add_assoc]
                refine (hb8.cell (p := ⟨bg, bo + (at_ + j), none⟩) hbg).trans (h1.trans ?_)
                simp [List.getElem?_take, hj])
              obtain ⟨S', hS'⟩ : ∃ S', S' = compress S ((M.drop at_).take 64) := ⟨_, rfl⟩
              rw [← hS'] at hK8
              have HS' := Lib.hid hS'
              have HK8 := Lib.hid hK8
              clear hK8 hS'
              go_wp2_with (first
                | (go_at_call 71
                   refine HK8.out.mono ?_
                   rintro e w9 ⟨rfl, hb9⟩
                   have hR9 := hR8.keep hb9)
                | (refine wpList_store_blk rfl 94 (.tmp 3) (.tmp 63) rfl p 94 (stCells S) (stCells S') rfl rfl hR9.r3 rfl (info94 _) (one_st _) ?_
                   intro w10 hb10 hf10
                   simp only [Act.put, List.setIfInBounds_toArray, List.set_cons_zero, List.set_cons_succ])
                | fail)
              go_roundw
              case rel =>
                have hlt9 := hR9.lt
                refine ⟨k + 1, by have := Hat.out; omega, by have := Hat.out; go_num, ⟨hR9.r0.fr hf10 (by unfold one; omega), ?_, hR9.r4.fr hf10 (by unfold one; omega), hR9.bel.trans (hf10.below hR9.bel.size (fun q hq => by unfold one at hq; omega)), hR9.lt⟩, fun j hj => ?_, Nat.lt_of_lt_of_le hbg (Nat.le_trans hb8.size (Nat.le_trans hb9.size hf10.size)), hbp⟩
                · rw [absorb_succ, ← HS.out, ← Hat.out, ← HS'.out]; exact hb10
                · have h1 := hM j hj
                  have h2 := (hb8.cell (p := ⟨bg, bo + j, none⟩) hbg).trans h1
                  have h3 := (hb9.cell (p := ⟨bg, bo + j, none⟩) (Nat.lt_of_lt_of_le hbg hb8.size)).trans h2
                  exact (hf10.cell (Nat.lt_of_lt_of_le hbg (Nat.le_trans hb8.size hb9.size)) (by unfold one; omega)).trans h3
              case measure => simp [intOf]; omega
            · have hd : decide ((at_ : Int) < (L : Int)) = false := decide_eq_false (by omega)
              have hkL : k = M.length / 64 := by have := HL.out; omega
              have hSw : S = wordsOf (pad x) := by rw [HS.out, hkL, HP.out]; rfl
              have HSW := Lib.hid hSw
              clear hkL hSw hat hS hM hbg hbp
              obtain ⟨wo, rfl⟩ : ∃ wo : World, wo = wr := ⟨_, rfl⟩
              go_wp2_with (first
                | (with_reducible refine wpList_alloc_run rfl 25 rfl zeroOut alloc25 ?_)
                | fail)
              have hS0 := Blk.new wo 25 zeroOut
              have hRa := hR.alloc (.cells zeroOut 25)
              obtain ⟨go, hgo⟩ : ∃ go, go = wo.heap.size := ⟨_, rfl⟩
              obtain ⟨wz, hwz⟩ : ∃ wz, wz = wo.alloc (.cells zeroOut 25) := ⟨_, rfl⟩
              have hgop : p + 1 < go := by rw [hgo]; exact hR.r4.lt
              rw [← hgo, ← hwz] at hS0 ⊢
              rw [← hwz] at hRa
              clear hgo hwz hR
              obtain ⟨F, hF⟩ : ∃ F : Nat → List UInt8, F = fun i => (List.range i).map (outByte S) ++ List.replicate (32 - i) 0 := ⟨_, rfl⟩
              have HF := Lib.hid hF
              have hF0 : F 0 = List.replicate 32 0 := by rw [hF]; rfl
              have hlen : ∀ i, i ≤ 32 → (F i).length = 32 := fun i hi => by rw [hF]; simp; omega
              have hFs : ∀ i, i < 32 → (F i).set i (outByte S i) = F (i + 1) := fun i hi => by
                rw [hF]
                show ((List.range i).map (outByte S) ++ List.replicate (32 - i) 0).set i _ = (List.range (i + 1)).map (outByte S) ++ List.replicate (32 - (i + 1)) 0
                rw [List.set_append_right _ _ (by simp), List.range_succ, List.map_append, List.append_assoc]
                congr 1
                simp only [List.length_map, List.length_range, Nat.sub_self, List.map_cons, List.map_nil, List.singleton_append]
                rw [show 32 - i = (32 - (i + 1)) + 1 by omega, List.replicate_succ, List.set_cons_zero]
              have HFs := Lib.hid hFs
              clear hF hFs
              go_loopw [12, 13, 14] (fun c12 _ _ wr => ∃ i : Nat, i ≤ 32 ∧ c12 = .int .i64 i ∧ RO w wr p S ∧ Blk wr go 25 (byteVals (F i)).toArray) (fun c12 _ _ _ => 32 - (intOf c12).toNat)
              case atStart => exact ⟨0, by omega, rfl, hRa, by rw [hF0]; exact hS0⟩
              case round =>
                clear hRa hS0
                obtain ⟨i, hi, rfl, hR, hO⟩ := hrel
                by_cases hlt : i < 32
                · have hd : decide ((i : Int) < 32) = true := decide_eq_true (by omega)
                  have hq0 : (0 : Int) ≤ (i : Int) := by omega
                  have e1 : wr.cell? ⟨p, i / 4, none⟩ = some (.int .u32 (n32 (S.list.getD (i / 4) 0))) := by rw [hR.r3.cell, stCells_at S (i / 4) (by omega)]
                  have hp1 := hR.r3.lt
                  obtain ⟨y, hy⟩ : ∃ y, y = S.list.getD (i / 4) 0 := ⟨_, rfl⟩
                  rw [← hy] at e1
                  have HY := Lib.hid hy
                  clear hy
                  obtain ⟨d4, hd4⟩ : ∃ d, d = i / 4 := ⟨_, rfl⟩
                  rw [← hd4] at e1
                  have hq2 : (i : Int) / 4 = (d4 : Int) := by omega
                  have hq3 : (d4 : Int) < 8 := by omega
                  have hq4 : (0 : Int) ≤ (d4 : Int) := by omega
                  have HD4 := Lib.hid hd4
                  clear hd4
                  obtain ⟨wq, rfl⟩ : ∃ wq : World, wq = wr := ⟨_, rfl⟩
                  go_wp2_with fail
                  obtain ⟨r4, hr4⟩ : ∃ r, r = i % 4 := ⟨_, rfl⟩
                  have hri : (i : Int) % 4 = (r4 : Int) := by omega
                  have HR4 := Lib.hid hr4
                  have hr3 : r4 ≤ 3 := by omega
                  clear hr4
                  go_loopw [13, 14] (fun c13 c14 wr => ∃ j : Nat, r4 + j ≤ 3 ∧ c13 = .int .u32 (n32 (shr y (8 * j))) ∧ c14 = .int .i64 (3 - (j : Int)) ∧ wr = wq) (fun _ c14 _ => (intOf c14 + 1).toNat)
                  case atStart => exact ⟨0, by omega, by congr 2; unfold shr; simp, rfl, rfl⟩
                  case round =>
                    obtain ⟨j, hj, rfl, rfl, rfl⟩ := hrel
                    obtain ⟨z, hz⟩ : ∃ z, z = shr y (8 * j) := ⟨_, rfl⟩
                    rw [← hz]
                    have HZz := Lib.hid hz
                    clear hz
                    by_cases hj3 : r4 + j < 3
                    · have hd3 : decide ((r4 : Int) < 3 - (j : Int)) = true := decide_eq_true (by omega)
                      have hd4 : decide (3 - (j : Int) > (r4 : Int)) = true := decide_eq_true (by omega)
                      go_wp2_with fail
                      go_roundw
                      case rel =>
                        refine ⟨j + 1, by omega, ?_, by go_num, trivial⟩
                        have e : shr y (8 * (j + 1)) = shr z 8 := by
                          rw [HZz.out]
                          apply UInt32.toNat_inj.1
                          have hs : ∀ (u : UInt32) (s : Nat), (shr u s).toNat = u.toNat / 2 ^ s := fun u s => by unfold shr; rw [toNat_ofNat _ (Nat.lt_of_le_of_lt (Nat.div_le_self _ _) (u32_lt u))]
                          rw [hs, hs, hs, Nat.div_div_eq_div_mul, ← Nat.pow_add]; rfl
                        rw [e, n32_mod]
                      case measure => simp [intOf]; omega
                    · have hd3 : decide ((r4 : Int) < 3 - (j : Int)) = false := decide_eq_false (by omega)
                      have hd4 : decide (3 - (j : Int) > (r4 : Int)) = false := decide_eq_false (by omega)
                      have hzo : z.toUInt8 = outByte S i := by
                        rw [HZz.out, HY.out]; unfold outByte
                        have h1 := HR4.out
                        rw [show 24 - 8 * (i % 4) = 8 * j by omega]
                      have HZO := Lib.hid hzo
                      have hoc := hO.frozen i
                      have hol : (byteVals (F i)).toArray.size = 32 := by simp [byteVals, hlen i (by omega)]
                      have hoc2 : wr.cell? ⟨go, i, none⟩ = some (v8 ((F i).getD i 0)) := by
                        rw [hO.cell]; simp only [List.getElem?_toArray]; exact byteVals_get _ _ (by rw [hlen i (by omega)]; exact hlt)
                      clear hzo hol
                      go_wp2_with fail
                      go_roundw
                      case rel =>
                        have hb8 : (n32 z).tmod 256 % 256 = n8 (outByte S i) := by
                          rw [Int.tmod_eq_emod_of_nonneg (n32_bd z).1, Int.emod_emod, ← HZO.out]; exact u8_u32' z
                        rw [hb8]
                        have hgop' : go ≠ w.heap.size := fun h => by have := hR.lt; omega
                        refine ⟨i + 1, by omega, by go_num, ⟨hR.r0.far' (fun h => hgop' h.symm) _, hR.r3.far' (by omega) _, hR.r4.far' (by omega) _, hR.bel.trans (((Fr.refl (one go) wr).setCell' (.inl rfl) _).below hR.bel.size (fun q hq => by unfold one at hq; have := hR.lt; omega)), hR.lt⟩, ?_⟩
                        have h := hO.set_ i (v8 (outByte S i))
                        rw [List.setIfInBounds_toArray] at h
                        rw [← HFs.out i hlt]
                        unfold byteVals at h ⊢
                        rw [List.map_set]
                        exact h
                      case measure => simp [intOf]; omega
                · have hd : decide ((i : Int) < 32) = false := decide_eq_false (by omega)
                  obtain rfl : i = 32 := by omega
                  have hfin : F 32 = sha x := by rw [HF.out, sha_words, ← HSW.out]; simp [out]
                  rw [hfin] at hO
                  obtain ⟨wq, rfl⟩ : ∃ wq : World, wq = wr := ⟨_, rfl⟩
                  clear hfin
                  go_wp2_with (first
                    | (refine wpList_load_blk rfl 25 (.tmp 11) rfl go 25 (shaV x) _ rfl hO Try.underlying25 rfl (info_shaV x) ?_)
                    | (refine wpList_store_blk rfl 25 (.tmp 2) (.tmp 85) rfl w.heap.size 25 zeroOut (shaV x) rfl rfl hR.r0 (zero_shaV x) (info_shaV x) (one_shaV x) ?_
                       intro w12 hb12 hf12)
                    | fail)
                  exact bodyPost_ret (v := .agg (shaV x)) (by
                    refine results_cell_row (cs := shaV x) rfl _ _ w.heap.size 25 (0, 0) _ rfl hb12 Try.underlying25 rfl (info_shaV x)) rfl
                    ⟨rfl, hR.bel.trans (hf12.below hR.bel.size (fun k hk => by cases hk; exact Nat.le_refl _))⟩
end Go.Proofs.Ytnlkjhhocehhaaa
