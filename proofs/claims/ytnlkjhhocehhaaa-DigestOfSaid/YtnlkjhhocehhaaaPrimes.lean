/- The contract of the reference's primes: the first 64. -/
import Derived.Test.YtnlkjhhocehhaaaRoot
import Derived.Test.YtnlkjhhocehhaaaRefOf
namespace Go.Proofs.Ytnlkjhhocehhaaa
set_option linter.unusedVariables false
open Go Go.RowKit Go.Proofs Sha
theorem vals64_append (a b : List Nat) : vals64 (a ++ b) = vals64 a ++ vals64 b := by simp [vals64]
theorem vals64_one (l : List Nat) : ∀ u ∈ vals64 l, u.oneCell' = true := by
  intro u hu; simp [vals64] at hu; obtain ⟨x, _, rfl⟩ := hu; rfl
theorem vals64_get (l : List Nat) (j : Nat) (h : j < l.length) : (vals64 l)[j]? = some (.int .u64 ((l.getD j 0 : Nat) : Int)) := by
  simp [vals64, h]
theorem prAt_ge : ∀ (t : Nat), ∀ p ∈ prAt t, 2 ≤ p ∧ p ≤ t + 1
  | 0 => by simp [prAt]
  | t + 1 => by
    intro p hp
    rw [prAt] at hp
    unfold prStep at hp
    split at hp
    · rcases List.mem_append.1 hp with h | h
      · have := prAt_ge t p h; omega
      · have : p = t + 2 := by simpa using h
        omega
    · have := prAt_ge t p hp; omega
theorem prAt_len_mono (t : Nat) : (prAt t).length ≤ (prAt (t + 1)).length := by
  rw [prAt]; unfold prStep; split <;> simp
theorem prAt_len_le : ∀ (s t : Nat), (prAt t).length ≤ (prAt (t + s)).length
  | 0, _ => Nat.le_refl _
  | s + 1, t => Nat.le_trans (prAt_len_le s t) (prAt_len_mono (t + s))
theorem prAt_lt64 (t : Nat) (h : t < 310) : (prAt t).length < 64 := by
  have h1 := prAt_len_le (309 - t) t
  rw [show t + (309 - t) = 309 by omega, primes_len.2] at h1
  omega
theorem hl64 {w : World} {A : Option Addr} {o : List Nat} (h : o.length = 64) (hs : Src w 1 A 64 (vals64 o)) : U64s w A o := by
  unfold U64s; rw [h]; exact hs
/-- A slice of numbers that grows. -/
structure GrowN (w W : World) (v : Value) (l : List Nat) : Prop where
  own : Own W 35 1 v l.length (vals64 l)
  row : ∀ k, rowOf v k → w.heap.size ≤ k
  bel : Below w.heap.size w W
set_option maxRecDepth 100000 in
set_option maxHeartbeats 2000000 in
theorem primes_any (w : World) :
    Calls Try.prog 67 #[] w fun e w' => (∃ A cp, e = .returned (.slice A 64 cp) ∧ U64s w' A primes64) ∧ Below w.heap.size w w' := by
  obtain ⟨i0, hi0, hz0, hz1, hz2⟩ := info_parts info35
  go_enter Try.func67, Try.ntmps67
  go_wp2_with fail
  go_loopw [1, 2, 3, 4] (fun c1 c2 _ _ wr => ∃ t : Nat, t ≤ 310 ∧ c2 = .int .u64 ((t + 2 : Nat) : Int) ∧ GrowN w wr c1 (prAt t)) (fun _ c2 _ _ _ => 312 - (intOf c2).toNat)
  case atStart => exact ⟨0, by omega, rfl, Own.nil _ _ _, fun k hk => (by cases hk), Below.refl _ _⟩
  case round =>
    obtain ⟨t, ht, rfl, hG⟩ := hrel
    obtain ⟨o, ho⟩ : ∃ o, o = prAt t := ⟨_, rfl⟩
    have hge : ∀ p ∈ o, 2 ≤ p := fun p hp => (prAt_ge t p (by rw [← ho]; exact hp)).1
    obtain ⟨L, hL⟩ : ∃ L, L = o.length := ⟨_, rfl⟩
    rw [← ho] at hG
    have hown := hG.own
    rw [← hL] at hown
    obtain ⟨A, cap, hv, hc1, hc2⟩ := hown.shape
    subst hv
    have hrow := hG.row
    have hbel := hG.bel
    have Ho := Lib.hid ho
    have HL := Lib.hid hL
    have HG := Lib.hid hge
    clear hG hge
    by_cases ht10 : t < 310
    · have hL64 : L < 64 := by have := prAt_lt64 t ht10; rw [← ho, ← hL] at this; exact this
      have hd : decide ((L : Int) < 64) = true := decide_eq_true (by omega)
      clear ho hL
      obtain ⟨n, hn⟩ : ∃ n : Nat, n = t + 2 := ⟨_, rfl⟩
      rw [← hn]
      have hn312 : n ≤ 311 := by omega
      have Hn := Lib.hid hn
      clear hn
      obtain ⟨wo, rfl⟩ : ∃ wo : World, wo = wr := ⟨_, rfl⟩
      go_wp2_with fail
      go_loop [3, 4] (fun c3 c4 => ∃ i : Nat, i ≤ L ∧ c4 = .int .i64 i ∧ c3 = .bool ((o.take i).all (fun p => n % p != 0))) (fun _ c4 => L - (intOf c4).toNat)
      case atStart => exact ⟨0, by omega, rfl, by simp⟩
      case round =>
        obtain ⟨i, hi, rfl, rfl⟩ := hrel
        obtain ⟨b, hb⟩ : ∃ b, b = (o.take i).all (fun p => n % p != 0) := ⟨_, rfl⟩
        rw [← hb]
        have HB := Lib.hid hb
        clear hb
        by_cases hiL : i < L
        · have hdi : decide ((i : Int) < (L : Int)) = true := decide_eq_true (by omega)
          obtain ⟨x, hx⟩ : ∃ x, x = o.getD i 0 := ⟨_, rfl⟩
          have hil : i < o.length := by have := HL.out; omega
          have hx2 : 2 ≤ x := HG.out x (by rw [hx]; simp [List.getD_eq_getElem?_getD, hil])
          have hst : (o.take (i + 1)).all (fun p => n % p != 0) = (b && n % x != 0) := by
            rw [List.take_succ_eq_append_getElem hil, List.all_append, ← HB.out, hx]; simp [hil]
          have HST := Lib.hid hst
          have hget := vals64_get o i hil
          rw [← hx] at hget
          obtain ⟨g, off, cp, hA, hg, _, hcell⟩ := hown.cells (by omega)
          injection hA with hA1 hA2 hA3
          subst hA1
          have hc := hcell i _ hget
          have Hx := Lib.hid hx
          clear hx hst hil hget hcell hA2 hA3
          cases b with
          | true =>
            go_wp2_with fail
            go_round
            case rel =>
              refine ⟨i + 1, by omega, by go_num, ?_⟩
              rw [HST.out]
              refine congrArg Value.bool ?_
              rw [Bool.true_and, Bool.eq_iff_iff, bne_iff_ne, bne_iff_ne]
              omega
            case measure => simp [intOf]; omega
          | false =>
            go_wp2_with fail
            go_round
            case rel => exact ⟨i + 1, by omega, by go_num, by rw [HST.out]; rfl⟩
            case measure => simp [intOf]; omega
        · obtain rfl : i = L := by omega
          have hdi : decide ((i : Int) < (i : Int)) = false := decide_eq_false (by omega)
          have hbt : b = o.all (fun p => n % p != 0) := by rw [HB.out, HL.out, List.take_length]
          have hpr : prAt (t + 1) = if b then o ++ [n] else o := by
            rw [prAt, ← Ho.out, ← Hn.out, hbt]; rfl
          have HP := Lib.hid hpr
          clear hbt hpr
          cases b with
          | true =>
            have hown' : Own (wo.alloc (.cells #[.int .u64 (n : Int)] 35)) 35 1 (.slice A i cap) i (vals64 o) := hown.fr ((Fr.refl nob _).alloc _) (fun _ h => h.elim)
            have hsrc' : Src (wo.alloc (.cells #[.int .u64 (n : Int)] 35)) 1 (some ⟨wo.heap.size, 0, none⟩) 1 [.int .u64 (n : Int)] := Src.of_new wo 35 #[.int .u64 (n : Int)] 1 rfl
            go_wp2_with (first
              | (at_builtin
                 refine wpList_append_o _ rfl (.tmp 27) (.tmp 29) 91 rfl 35 i0 (.int .u64 0) 1 8 Try.underlying91 hi0 hz0 hz1 hz2 rfl (by omega) (.slice A i cap) i (vals64 o) rfl hown' (some ⟨wo.heap.size, 0, none⟩) 1 1 [.int .u64 (n : Int)] rfl hsrc' (by simp [Value.oneCell']) (by simp only [maxLen]; omega) (by omega) ?_
                 intro v3 w7 hown7 hf7 hr7)
              | fail)
            go_roundw
            case rel =>
              refine ⟨t + 1, by omega, by rw [Hn.out]; go_num, ?_⟩
              rw [HP.out, if_pos rfl]
              exact ⟨by rw [vals64_append, List.length_append, ← HL.out]; exact hown7, fun k hk => (hr7 k hk).elim (hrow k) (fun h => by have := hbel.size; simp at h; omega),
                (hbel.trans ((Below.refl _ _).alloc hbel.size _)).trans (hf7.below (by have := hbel.size; simp; omega) hrow)⟩
            case measure => simp [intOf]; omega
          | false =>
            go_wp2_with fail
            go_roundw
            case rel =>
              refine ⟨t + 1, by omega, by rw [Hn.out]; go_num, ?_⟩
              rw [HP.out, if_neg (by simp)]
              exact ⟨by rw [← HL.out]; exact hown, hrow, hbel⟩
            case measure => simp [intOf]; omega
    · obtain rfl : t = 310 := by omega
      have hL64 : L = 64 := by rw [hL, ho]; exact primes_len.1
      subst hL64
      clear ho hL
      go_wp2_with fail
      go_ret
      exact ⟨⟨A, cap, rfl, by unfold primes64; rw [← Ho.out]; exact hl64 (by have := HL.out; omega) (Src.of_own hown)⟩, hbel⟩
end Go.Proofs.Ytnlkjhhocehhaaa
