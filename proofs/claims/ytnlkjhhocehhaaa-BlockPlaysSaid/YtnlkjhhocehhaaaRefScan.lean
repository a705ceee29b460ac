/- The reference's Scan: the plain law, and a row of byte slices that lie in an older world. -/
import Derived.Test.YtnlkjhhocehhaaaRefRec
import Derived.Test.YtnlkjhhocehhaaaRecLaw
import Derived.Test.YtnlkjhhocehhaaaSame
namespace Go.Proofs.Ytnlkjhhocehhaaa
set_option linter.unusedVariables false
open Go Go.RowKit Go.Proofs Sha
/-- A new row of byte slices that lie in the world w0. -/
def LsA (w0 w : World) (v : Value) (l : List (List UInt8)) : Prop := ∃ us : List Value, us.length = l.length ∧ Own w 22 1 v l.length us ∧ (∀ g, rowOf v g → w0.heap.size ≤ g) ∧ ∀ i, i < l.length → Sl w0 (us.getD i undef) (l.getD i [])
theorem LsA.nil (w0 w : World) : LsA w0 w (.slice none 0 0) [] := ⟨[], rfl, Own.nil _ _ _, (fun g hg => by cases hg), fun i h => by simp at h⟩
theorem LsA.ls {w0 w : World} {v : Value} {l : List (List UInt8)} (h : LsA w0 w v l) (hb : Below w0.heap.size w0 w) : Ls w v l := by
  obtain ⟨us, h1, h2, h3, h4⟩ := h
  exact ⟨us, h1, h2, fun i hi => (h4 i hi).keep hb⟩
theorem LsA.keep {w0 w w' : World} {v : Value} {l : List (List UInt8)} (h : LsA w0 w v l) (hb : Below w.heap.size w w') : LsA w0 w' v l := by
  obtain ⟨us, h1, h2, h3, h4⟩ := h
  exact ⟨us, h1, Own.fr h2 (Fr.of_below hb nob) (fun _ h => h.elim), h3, h4⟩
theorem LsA.snoc {w0 w : World} {v u : Value} {l : List (List UInt8)} {x : List UInt8} {us : List Value} (h1 : us.length = l.length) (h2 : Own w 22 1 v (l.length + 1) (us ++ [u])) (h3 : ∀ g, rowOf v g → w0.heap.size ≤ g) (h4 : ∀ i, i < l.length → Sl w0 (us.getD i undef) (l.getD i [])) (hu : Sl w0 u x) : LsA w0 w v (l ++ [x]) := by
  refine ⟨us ++ [u], by simp [h1], by rw [List.length_append]; exact h2, h3, fun i hi => ?_⟩
  rw [List.length_append, List.length_singleton] at hi
  rcases Nat.lt_or_ge i l.length with h | h
  · have e1 : (us ++ [u]).getD i undef = us.getD i undef := by simp only [List.getD_eq_getElem?_getD]; rw [List.getElem?_append_left (by omega)]
    have e2 : (l ++ [x]).getD i [] = l.getD i [] := by simp only [List.getD_eq_getElem?_getD]; rw [List.getElem?_append_left (by omega)]
    rw [e1, e2]; exact h4 i h
  · obtain rfl : i = l.length := by omega
    have e1 : (us ++ [u]).getD l.length undef = u := by rw [← h1]; simp
    have e2 : (l ++ [x]).getD l.length [] = x := by simp
    rw [e1, e2]; exact hu
theorem split6 (d : List UInt8) (n : Nat) (h : 6 + n ≤ d.length) : d.take (6 + n) = [d.getD 0 0, d.getD 1 0] ++ (d.take 6).drop 2 ++ (d.take (6 + n)).drop 6 := by
  rcases d with _ | ⟨d0, _ | ⟨d1, d⟩⟩
  · simp at h
  · simp at h; omega
  · have e : 6 + n = (4 + n) + 1 + 1 := by omega
    rw [e]
    simp only [List.take_succ_cons, List.getD_cons_zero, List.getD_cons_succ, List.drop_succ_cons, List.drop_zero, List.cons_append, List.nil_append]
    congr 2
    have := List.take_append_drop 4 (d.take (4 + n))
    rw [List.take_take, show min 4 (4 + n) = 4 by omega] at this
    exact this.symm
theorem nextB_as (d : List UInt8) (h6 : 6 ≤ d.length) (n : Nat) (hn : n = (d.getD 0 0).toNat + 256 * (d.getD 1 0).toNat) :
    nextB d = if 4000 < n ∨ d.length < 6 + n then none else if recB ((d.take (6 + n)).drop 6) = d.take (6 + n) then some ((d.take (6 + n)).drop 6) else none := by
  have hN : nextN d = 6 + n := by unfold nextN; omega
  unfold nextB
  rw [if_neg (by omega), hN]
  by_cases hc : 4000 < n ∨ d.length < 6 + n
  · rw [if_pos (by omega), if_pos hc]
  · rw [if_neg (by omega), if_neg hc]
    obtain ⟨x, hx⟩ : ∃ x, x = (d.take (6 + n)).drop 6 := ⟨_, rfl⟩
    have hxl : x.length = n := by rw [hx, List.length_drop, List.length_take]; omega
    have hs := split6 d n (by omega)
    rw [← hx] at hs ⊢
    have e0 : UInt8.ofNat (n % 256) = d.getD 0 0 := by
      have h0 := (d.getD 0 0).toNat_lt
      have : n % 256 = (d.getD 0 0).toNat := by omega
      rw [this, UInt8.ofNat_toNat]
    have e1 : UInt8.ofNat (n / 256) = d.getD 1 0 := by
      have h0 := (d.getD 0 0).toNat_lt
      have : n / 256 = (d.getD 1 0).toNat := by omega
      rw [this, UInt8.ofNat_toNat]
    have : (recB x = d.take (6 + n)) ↔ (sha x).take 4 = (d.take 6).drop 2 := by
      rw [hs]
      unfold recB
      rw [hxl, e0, e1]
      constructor
      · intro h
        exact List.append_cancel_left (List.append_cancel_right h)
      · intro h; rw [h]
    by_cases hq : (sha x).take 4 = (d.take 6).drop 2
    · rw [if_pos hq, if_pos (this.2 hq)]
    · rw [if_neg hq, if_neg (fun h => hq (this.1 h))]
theorem drop_part (b : List UInt8) (at_ n : Nat) : ((b.drop at_).take (6 + n)).drop 6 = (b.take (at_ + 6 + n)).drop (at_ + 6) := by
  apply List.ext_getElem?
  intro j
  simp only [List.getElem?_drop, List.getElem?_take]
  by_cases h : 6 + j < 6 + n
  · rw [if_pos h, if_pos (by omega)]; congr 1; omega
  · rw [if_neg h, if_neg (by omega)]
theorem drop_all (b : List UInt8) (at_ n : Nat) : (b.drop at_).take (6 + n) = (b.take (at_ + 6 + n)).drop at_ := by
  apply List.ext_getElem?
  intro j
  simp only [List.getElem?_drop, List.getElem?_take]
  by_cases h : j < 6 + n
  · rw [if_pos h, if_pos (by omega)]
  · rw [if_neg h, if_neg (by omega)]
set_option maxRecDepth 100000 in
set_option maxHeartbeats 4000000 in
theorem rscan_any (b : List UInt8) (A : Option Addr) (c : Nat) (w : World) (hb : Bytes w A b) (hl : b.length ≤ 1000000) (hc : b.length ≤ c) (hcm : c ≤ maxLen) (hA : A = none → c = 0) :
    Calls Try.prog 46 #[.slice A b.length c] w fun e w' => ∃ v, e = .returned (.tuple #[v, .int .i64 ((scanB b).2 : Int)]) ∧ LsA w w' v (scanB b).1 ∧ Below w.heap.size w w' := by
  obtain ⟨i2, hi2, hy0, hy1, hy2⟩ := info_parts info22'
  have HB := Lib.hid hb
  obtain ⟨m, hm⟩ : ∃ m, m = b.length := ⟨_, rfl⟩
  rw [← hm] at hl hc ⊢
  have HM := Lib.hid hm
  clear hb hm
  go_enter Try.func46, Try.ntmps46
  go_wp2_with fail
  go_loopw [4, 5] (fun c4 c5 wr => ∃ (at_ : Nat) (r : List (List UInt8)), at_ ≤ m ∧ r.length ≤ at_ ∧ c5 = .int .i64 (at_ : Int) ∧ LsA w wr c4 r ∧ (scanB b).1 = r ++ (scanB (b.drop at_)).1 ∧ (scanB b).2 = at_ + (scanB (b.drop at_)).2 ∧ Below w.heap.size w wr) (fun _ c5 _ => m - (intOf c5).toNat)
  case atStart => exact ⟨0, [], by omega, by simp, rfl, LsA.nil _ _, by simp, by simp, Below.refl _ _⟩
  case round =>
    obtain ⟨at_, r, hat, hrl, rfl, hL, hs1, hs2, hBl⟩ := hrel
    have HL := Lib.hid hL
    have HS1 := Lib.hid hs1
    have HS2 := Lib.hid hs2
    have HBl := Lib.hid hBl
    clear hL hs1 hs2 hBl
    by_cases h6 : m < at_ + 6
    · have hd : decide ((at_ : Int) + 6 ≤ (m : Int)) = false := decide_eq_false (by omega)
      have hnx : nextB (b.drop at_) = none := by unfold nextB; rw [if_pos (by rw [List.length_drop, ← HM.out]; omega)]
      have hfin : (scanB b).1 = r ∧ (scanB b).2 = at_ := by rw [HS1.out, HS2.out, scanB_none hnx]; simp
      have HFIN := Lib.hid hfin
      clear hnx hfin
      go_wp2_with fail
      go_ret2
      exact ⟨u4, by rw [HFIN.out.2]; rfl, by rw [HFIN.out.1]; exact HL.out, HBl.out⟩
    · have hd : decide ((at_ : Int) + 6 ≤ (m : Int)) = true := decide_eq_true (by omega)
      obtain ⟨g, o, rfl, hg, hcell⟩ := HB.out.at_ (by rw [← HM.out]; omega)
      obtain ⟨p, hp⟩ : ∃ p, p = (b.getD at_ 0).toNat := ⟨_, rfl⟩
      obtain ⟨q, hq⟩ : ∃ q, q = (b.getD (at_ + 1) 0).toNat := ⟨_, rfl⟩
      have hgw : g < wr.heap.size := Nat.lt_of_lt_of_le hg HBl.out.size
      have h0 : wr.cell? ⟨g, o + at_, none⟩ = some (.int .u8 (p : Int)) := by
        rw [hp]; exact (HBl.out.cell (p := ⟨g, o + at_, none⟩) hg).trans (hcell at_ (by rw [← HM.out]; omega))
      have h1 : wr.cell? ⟨g, o + (at_ + 1), none⟩ = some (.int .u8 (q : Int)) := by
        rw [hq]; exact (HBl.out.cell (p := ⟨g, o + (at_ + 1), none⟩) hg).trans (hcell (at_ + 1) (by rw [← HM.out]; omega))
      have hp2 : p < 256 := by rw [hp]; exact UInt8.toNat_lt _
      have hq2 : q < 256 := by rw [hq]; exact UInt8.toNat_lt _
      obtain ⟨n, hn⟩ : ∃ n, n = p + 256 * q := ⟨_, rfl⟩
      have hnx := nextB_as (b.drop at_) (by rw [List.length_drop, ← HM.out]; omega) n (by
        have e1 : (b.drop at_).getD 0 0 = b.getD at_ 0 := by simp [List.getD_eq_getElem?_getD, List.getElem?_drop]
        have e2 : (b.drop at_).getD 1 0 = b.getD (at_ + 1) 0 := by simp [List.getD_eq_getElem?_getD, List.getElem?_drop]
        rw [e1, e2, ← hp, ← hq]; exact hn)
      rw [drop_part, drop_all, List.length_drop, ← HM.out] at hnx
      have HNX := Lib.hid hnx
      have hni : ((p : Int) + 256 * (q : Int)) = (n : Int) := by omega
      have HNI := Lib.hid hni
      have hi0 : (0 : Int) ≤ (at_ : Int) := by omega
      have him : (at_ : Int) < (m : Int) := by omega
      have him1 : (at_ : Int) + 1 < (m : Int) := by omega
      clear hp hq hn hni hnx hcell
      go_wp2_with fail
      refine wp_region_quiet_lit (by kernel_rfl) (by kernel_rfl) ?_
      repeat (go_big_quiet_step (fail))
      refine wpQuiet_nil ?_
      intro w2 hw2
      obtain ⟨k2, hw2⟩ := hw2
      have hb2 : Below wr.heap.size wr w2 := by rw [hw2]; exact ⟨rfl, rfl, rfl, Nat.le_refl _, fun _ _ => rfl⟩
      rw [HNI.out]
      have HB2 := Lib.hid hb2
      clear hw2 hb2 h0 h1
      by_cases hc1 : 4000 < n ∨ m - at_ < 6 + n
      · have hfin : (scanB b).1 = r ∧ (scanB b).2 = at_ := by
          have := HNX.out
          rw [if_pos hc1] at this
          rw [HS1.out, HS2.out, scanB_none this]; simp
        have HFIN := Lib.hid hfin
        clear hfin
        by_cases hc2 : 4000 < n
        · have hd1 : decide ((4000 : Int) < (n : Int)) = true := decide_eq_true (by omega)
          have hd11 : decide (4000 < n) = true := decide_eq_true (by omega)
          go_wp2_with fail
          go_ret2
          exact ⟨u4, by rw [HFIN.out.2]; rfl, by rw [HFIN.out.1]; exact HL.out.keep HB2.out, HBl.out.trans (HB2.out.mono HBl.out.size)⟩
        · have hd1 : decide ((4000 : Int) < (n : Int)) = false := decide_eq_false (by omega)
          have hd11 : decide (4000 < n) = false := decide_eq_false (by omega)
          have hd2 : decide ((m : Int) < (at_ : Int) + 6 + (n : Int)) = true := decide_eq_true (by omega)
          go_wp2_with fail
          go_ret2
          exact ⟨u4, by rw [HFIN.out.2]; rfl, by rw [HFIN.out.1]; exact HL.out.keep HB2.out, HBl.out.trans (HB2.out.mono HBl.out.size)⟩
      · have hn4 : n ≤ 4000 := by omega
        have hnm : at_ + 6 + n ≤ m := by omega
        have hd1 : decide ((4000 : Int) < (n : Int)) = false := decide_eq_false (by omega)
        have hd11 : decide (4000 < n) = false := decide_eq_false (by omega)
        have hd2 : decide ((m : Int) < (at_ : Int) + 6 + (n : Int)) = false := decide_eq_false (by omega)
        have HB3 := Lib.hid (HBl.out.trans (HB2.out.mono HBl.out.size))
        obtain ⟨hx, hxl⟩ := part_bytes (k := at_ + 6) (N := at_ + 6 + n) (c := c) HB.out (by omega) (by rw [← HM.out]; omega) (by rw [← HM.out]; omega)
        obtain ⟨hz, hzl⟩ := part_bytes (k := at_) (N := at_ + 6 + n) (c := c) HB.out (by omega) (by rw [← HM.out]; omega) (by rw [← HM.out]; omega)
        rw [if_neg (by omega)] at hz
        obtain ⟨x, hxx⟩ : ∃ x, x = (b.take (at_ + 6 + n)).drop (at_ + 6) := ⟨_, rfl⟩
        obtain ⟨z, hzz⟩ : ∃ z, z = (b.take (at_ + 6 + n)).drop at_ := ⟨_, rfl⟩
        have hnx2 := HNX.out
        rw [if_neg hc1, ← hxx, ← hzz] at hnx2
        rw [← hxx] at hx hxl
        rw [← hzz] at hz hzl
        obtain ⟨A6, hA6⟩ : ∃ A6, (if c = at_ + 6 then (some ⟨g, o, none⟩ : Option Addr) else some ⟨g, o + (at_ + 6), none⟩) = A6 := ⟨_, rfl⟩
        rw [hA6] at hx
        have HX := Lib.hid hx
        have HZ := Lib.hid hz
        have HXL := Lib.hid hxl
        have HZL := Lib.hid hzl
        have HNX2 := Lib.hid hnx2
        have HR := Lib.hid (rrecord_any x A6 (c - (at_ + 6)) w2 (by omega) (HX.out.keep HB3.out))
        rw [hxl, show at_ + 6 + n - (at_ + 6) = n by omega] at HR
        have HA6 := Lib.hid hA6
        have hmc : (m : Int) ≤ (c : Int) := by omega
        have hsum : (at_ : Int) + 6 + (n : Int) ≤ (m : Int) := by omega
        clear hx hz hxl hzl hxx hzz hnx2 HNX hA6 hc1
        have hxn : x.length = n := by rw [HXL.out]; omega
        have HXN := Lib.hid hxn
        clear hxn
        by_cases hq : recB x = z
        · have hns : nextB (b.drop at_) = some x := by rw [HNX2.out, if_pos hq]
          have HNS := Lib.hid hns
          subst hq
          clear hns
          by_cases hce : c = at_ + 6
          · subst hce
            have h66 := HA6.out
            rw [if_pos rfl] at h66
            subst h66
            rw [Nat.sub_self] at HR
            go_wp2_with (first
              | (go_at_call 49
                 refine HR.out.mono ?_
                 rintro e w3 ⟨v3, rfl, ho3, hr3, hb3⟩
                 obtain ⟨A3, c3, hv3, -, -⟩ := ho3.shape
                 subst hv3
                 have hB3 := HB3.out.trans (hb3.mono HB3.out.size)
                 have hy3 : Bytes w3 A3 (recB x) := Src.of_own ho3
                 have hz3 : Bytes w3 (some ⟨g, o + at_, none⟩) (recB x) := HZ.out.keep hB3
                 have R1 : Hid (∀ W, (∃ n, W = w3.drewN n) → (convert 22 9 (.slice A3 (recB x).length c3)).run Try.prog W = .ok (.string ⟨(recB x).toArray⟩) W) := Lib.hid (fun W hW => by obtain ⟨q, rfl⟩ := hW; exact back_text _ _ _ _ _ rfl (bytes_drewN hy3 q))
                 have R2 : Hid (∀ (ln cc : Nat), ln = 6 + n → ∀ W, (∃ n, W = w3.drewN n) → (convert 22 9 (.slice (some ⟨g, o + at_, none⟩) ln cc)).run Try.prog W = .ok (.string ⟨(recB x).toArray⟩) W) := Lib.hid (fun ln cc hln W hW => by obtain ⟨q, rfl⟩ := hW; exact back_text _ _ _ _ (recB x) (by have := HZL.out; omega) (bytes_drewN hz3 q))
                 have HB4 := Lib.hid hB3
                 have HBB := Lib.hid (HB2.out.trans (hb3.mono HB2.out.size))
                 clear ho3 hr3 hb3 hB3 hy3 hz3)
              | fail)
            refine wp_region_quiet_lit (by kernel_rfl) (by kernel_rfl) ?_
            repeat (go_big_quiet_step (fail))
            go_big_quiet_want
            refine quiet_conv 22 9 (.tmp 50) rfl _ _ rfl R1.out ?_
            go_big_quiet_on
            try simp only [Act.put, List.setIfInBounds_toArray, List.set_cons_zero, List.set_cons_succ]
            repeat (go_big_quiet_step (fail))
            go_big_quiet_want
            refine quiet_conv 22 9 (.tmp 58) rfl _ _ rfl (R2.out _ _ (by omega)) ?_
            go_big_quiet_on
            try simp only [Act.put, List.setIfInBounds_toArray, List.set_cons_zero, List.set_cons_succ]
            repeat (go_big_quiet_step (fail))
            refine wpQuiet_nil ?_
            intro w4 hw4
            obtain ⟨k4, hw4⟩ := hw4
            have hb4 : Below w3.heap.size w3 w4 := by rw [hw4]; exact ⟨rfl, rfl, rfl, Nat.le_refl _, fun _ _ => rfl⟩
            have HBB4 := Lib.hid (HBB.out.trans (hb4.mono HBB.out.size))
            have HBW4 := Lib.hid (HB4.out.trans (hb4.mono HB4.out.size))
            clear hw4 hb4 R1 R2
            obtain ⟨us, hu1, hu2, hu3, hu4⟩ := HL.out
            have HU1 := Lib.hid hu1
            have HU3 := Lib.hid hu3
            have HU4 := Lib.hid hu4
            have HU2 : Hid (∀ W, Below w4.heap.size w4 W → Own W 22 1 u4 r.length us) := Lib.hid (fun W hW => Own.fr hu2 (Fr.of_below (HBB4.out.trans (hW.mono HBB4.out.size)) nob) (fun _ h => h.elim))
            have HSX : Hid (Sl w (.slice (some ⟨g, o, none⟩) n 0) x) := Lib.hid ⟨_, _, by rw [HXL.out, show at_ + 6 + n - (at_ + 6) = n by omega], by rw [HXL.out]; omega, by unfold maxLen at hcm ⊢; omega, HX.out, fun h => by cases h⟩
            clear hu1 hu2 hu3 hu4
            go_wp2_with (first
              | (at_builtin
                 refine wpList_append_o _ rfl (.tmp 61) (.tmp 70) 48 rfl 22 i2 (.slice none 0 0) 1 24 Try.underlying48 hi2 hy0 hy1 hy2 (by rfl) (by omega) u4 r.length us (by rfl) (HU2.out _ ((Below.refl _ w4).alloc (Nat.le_refl _) _)) (some ⟨w4.heap.size, 0, none⟩) 1 1 [(.slice (some ⟨g, o, none⟩) n 0)] (by rfl) (Src.of_new w4 22 #[(.slice (some ⟨g, o, none⟩) n 0)] 1 rfl) (by simp [Value.oneCell']) (by simp only [maxLen]; omega) (by omega) ?_
                 intro v5 w5 ho5 hf5 hr5
                 simp only [Act.put, List.setIfInBounds_toArray, List.set_cons_zero, List.set_cons_succ])
              | fail)
            go_roundw
            case rel =>
              have h1 := HS1.out
              have h2 := HS2.out
              rw [scanB_some HNS.out] at h1 h2
              rw [HXN.out] at h1 h2
              rw [List.drop_drop] at h1 h2
              have s4 := HBW4.out.size
              have hr5' : ∀ k, rowOf v5 k → w.heap.size ≤ k := fun k hk => (hr5 k hk).elim (HU3.out k) (fun h => by simp only [World.size_alloc] at h; omega)
              refine ⟨at_ + (6 + n), r ++ [x], by omega, by rw [List.length_append, List.length_singleton]; omega, by go_num, LsA.snoc HU1.out ho5 hr5' HU4.out HSX.out, ?_, ?_, (HBW4.out.alloc s4 _).trans (hf5.below (by simp only [World.size_alloc]; omega) (fun k hk => HU3.out k hk))⟩
              · rw [h1, List.append_assoc]; rfl
              · rw [h2]; omega
            case measure => simp [intOf]; omega
          · have h66 := HA6.out
            rw [if_neg hce] at h66
            subst h66
            go_wp2_with (first
              | (go_at_call 49
                 refine HR.out.mono ?_
                 rintro e w3 ⟨v3, rfl, ho3, hr3, hb3⟩
                 obtain ⟨A3, c3, hv3, -, -⟩ := ho3.shape
                 subst hv3
                 have hB3 := HB3.out.trans (hb3.mono HB3.out.size)
                 have hy3 : Bytes w3 A3 (recB x) := Src.of_own ho3
                 have hz3 : Bytes w3 (some ⟨g, o + at_, none⟩) (recB x) := HZ.out.keep hB3
                 have R1 : Hid (∀ W, (∃ n, W = w3.drewN n) → (convert 22 9 (.slice A3 (recB x).length c3)).run Try.prog W = .ok (.string ⟨(recB x).toArray⟩) W) := Lib.hid (fun W hW => by obtain ⟨q, rfl⟩ := hW; exact back_text _ _ _ _ _ rfl (bytes_drewN hy3 q))
                 have R2 : Hid (∀ (ln cc : Nat), ln = 6 + n → ∀ W, (∃ n, W = w3.drewN n) → (convert 22 9 (.slice (some ⟨g, o + at_, none⟩) ln cc)).run Try.prog W = .ok (.string ⟨(recB x).toArray⟩) W) := Lib.hid (fun ln cc hln W hW => by obtain ⟨q, rfl⟩ := hW; exact back_text _ _ _ _ (recB x) (by have := HZL.out; omega) (bytes_drewN hz3 q))
                 have HB4 := Lib.hid hB3
                 have HBB := Lib.hid (HB2.out.trans (hb3.mono HB2.out.size))
                 clear ho3 hr3 hb3 hB3 hy3 hz3)
              | fail)
            refine wp_region_quiet_lit (by kernel_rfl) (by kernel_rfl) ?_
            repeat (go_big_quiet_step (fail))
            go_big_quiet_want
            refine quiet_conv 22 9 (.tmp 50) rfl _ _ rfl R1.out ?_
            go_big_quiet_on
            try simp only [Act.put, List.setIfInBounds_toArray, List.set_cons_zero, List.set_cons_succ]
            repeat (go_big_quiet_step (fail))
            go_big_quiet_want
            refine quiet_conv 22 9 (.tmp 58) rfl _ _ rfl (R2.out _ _ (by omega)) ?_
            go_big_quiet_on
            try simp only [Act.put, List.setIfInBounds_toArray, List.set_cons_zero, List.set_cons_succ]
            repeat (go_big_quiet_step (fail))
            refine wpQuiet_nil ?_
            intro w4 hw4
            obtain ⟨k4, hw4⟩ := hw4
            have hb4 : Below w3.heap.size w3 w4 := by rw [hw4]; exact ⟨rfl, rfl, rfl, Nat.le_refl _, fun _ _ => rfl⟩
            have HBB4 := Lib.hid (HBB.out.trans (hb4.mono HBB.out.size))
            have HBW4 := Lib.hid (HB4.out.trans (hb4.mono HB4.out.size))
            clear hw4 hb4 R1 R2
            obtain ⟨us, hu1, hu2, hu3, hu4⟩ := HL.out
            have HU1 := Lib.hid hu1
            have HU3 := Lib.hid hu3
            have HU4 := Lib.hid hu4
            have HU2 : Hid (∀ W, Below w4.heap.size w4 W → Own W 22 1 u4 r.length us) := Lib.hid (fun W hW => Own.fr hu2 (Fr.of_below (HBB4.out.trans (hW.mono HBB4.out.size)) nob) (fun _ h => h.elim))
            have HSX : Hid (Sl w (.slice (some ⟨g, o + (at_ + 6), none⟩) n (c - (at_ + 6))) x) := Lib.hid ⟨_, _, by rw [HXL.out, show at_ + 6 + n - (at_ + 6) = n by omega], by rw [HXL.out]; omega, by unfold maxLen at hcm ⊢; omega, HX.out, fun h => by cases h⟩
            clear hu1 hu2 hu3 hu4
            go_wp2_with (first
              | (at_builtin
                 refine wpList_append_o _ rfl (.tmp 61) (.tmp 70) 48 rfl 22 i2 (.slice none 0 0) 1 24 Try.underlying48 hi2 hy0 hy1 hy2 (by rfl) (by omega) u4 r.length us (by rfl) (HU2.out _ ((Below.refl _ w4).alloc (Nat.le_refl _) _)) (some ⟨w4.heap.size, 0, none⟩) 1 1 [(.slice (some ⟨g, o + (at_ + 6), none⟩) n (c - (at_ + 6)))] (by rfl) (Src.of_new w4 22 #[(.slice (some ⟨g, o + (at_ + 6), none⟩) n (c - (at_ + 6)))] 1 rfl) (by simp [Value.oneCell']) (by simp only [maxLen]; omega) (by omega) ?_
                 intro v5 w5 ho5 hf5 hr5
                 simp only [Act.put, List.setIfInBounds_toArray, List.set_cons_zero, List.set_cons_succ])
              | fail)
            go_roundw
            case rel =>
              have h1 := HS1.out
              have h2 := HS2.out
              rw [scanB_some HNS.out] at h1 h2
              rw [HXN.out] at h1 h2
              rw [List.drop_drop] at h1 h2
              have s4 := HBW4.out.size
              have hr5' : ∀ k, rowOf v5 k → w.heap.size ≤ k := fun k hk => (hr5 k hk).elim (HU3.out k) (fun h => by simp only [World.size_alloc] at h; omega)
              refine ⟨at_ + (6 + n), r ++ [x], by omega, by rw [List.length_append, List.length_singleton]; omega, by go_num, LsA.snoc HU1.out ho5 hr5' HU4.out HSX.out, ?_, ?_, (HBW4.out.alloc s4 _).trans (hf5.below (by simp only [World.size_alloc]; omega) (fun k hk => HU3.out k hk))⟩
              · rw [h1, List.append_assoc]; rfl
              · rw [h2]; omega
            case measure => simp [intOf]; omega
        · have hfin : (scanB b).1 = r ∧ (scanB b).2 = at_ := by
            have := HNX2.out
            rw [if_neg hq] at this
            rw [HS1.out, HS2.out, scanB_none this]; simp
          have HFIN := Lib.hid hfin
          have hne : ((⟨(recB x).toArray⟩ : ByteArray).toList == (⟨z.toArray⟩ : ByteArray).toList) = false := by
            rw [beq_eq_false_iff_ne, ByteArray.toList_eq, ByteArray.toList_eq]
            intro h
            exact hq (by simpa using h)
          obtain ⟨S1, hS1⟩ : ∃ S : ByteArray, S = ⟨(recB x).toArray⟩ := ⟨_, rfl⟩
          obtain ⟨S2, hS2⟩ : ∃ S : ByteArray, S = ⟨z.toArray⟩ := ⟨_, rfl⟩
          rw [← hS1, ← hS2] at hne
          have hne2 : (S1.toList != S2.toList) = true := by unfold bne; rw [hne]; rfl
          have HSA := Lib.hid hS1
          have HSB := Lib.hid hS2
          clear hS1 hS2
          clear hfin hq
          by_cases hce : c = at_ + 6
          · subst hce
            have h66 := HA6.out
            rw [if_pos rfl] at h66
            subst h66
            rw [Nat.sub_self] at HR
            go_wp2_with (first
              | (go_at_call 49
                 refine HR.out.mono ?_
                 rintro e w3 ⟨v3, rfl, ho3, hr3, hb3⟩
                 obtain ⟨A3, c3, hv3, -, -⟩ := ho3.shape
                 subst hv3
                 have hB3 := HB3.out.trans (hb3.mono HB3.out.size)
                 have hy3 : Bytes w3 A3 (recB x) := Src.of_own ho3
                 have hz3 : Bytes w3 (some ⟨g, o + at_, none⟩) z := HZ.out.keep hB3
                 have R1 : Hid (∀ W, (∃ n, W = w3.drewN n) → (convert 22 9 (.slice A3 (recB x).length c3)).run Try.prog W = .ok (.string S1) W) := Lib.hid (fun W hW => by obtain ⟨q, rfl⟩ := hW; rw [HSA.out]; exact back_text _ _ _ _ _ rfl (bytes_drewN hy3 q))
                 have R2 : Hid (∀ (ln cc : Nat), ln = 6 + n → ∀ W, (∃ n, W = w3.drewN n) → (convert 22 9 (.slice (some ⟨g, o + at_, none⟩) ln cc)).run Try.prog W = .ok (.string S2) W) := Lib.hid (fun ln cc hln W hW => by obtain ⟨q, rfl⟩ := hW; rw [HSB.out]; exact back_text _ _ _ _ z (by have := HZL.out; omega) (bytes_drewN hz3 q))
                 have HB4 := Lib.hid hB3
                 have HBB := Lib.hid (HB2.out.trans (hb3.mono HB2.out.size))
                 clear ho3 hr3 hb3 hB3 hy3 hz3)
              | fail)
            refine wp_region_quiet_lit (by kernel_rfl) (by kernel_rfl) ?_
            repeat (go_big_quiet_step (fail))
            go_big_quiet_want
            refine quiet_conv 22 9 (.tmp 50) rfl _ _ rfl R1.out ?_
            go_big_quiet_on
            try simp only [Act.put, List.setIfInBounds_toArray, List.set_cons_zero, List.set_cons_succ]
            repeat (go_big_quiet_step (fail))
            go_big_quiet_want
            refine quiet_conv 22 9 (.tmp 58) rfl _ _ rfl (R2.out _ _ (by omega)) ?_
            go_big_quiet_on
            try simp only [Act.put, List.setIfInBounds_toArray, List.set_cons_zero, List.set_cons_succ]
            repeat (go_big_quiet_step (fail))
            refine wpQuiet_nil ?_
            intro w4 hw4
            obtain ⟨k4, hw4⟩ := hw4
            have hb4 : Below w3.heap.size w3 w4 := by rw [hw4]; exact ⟨rfl, rfl, rfl, Nat.le_refl _, fun _ _ => rfl⟩
            have HBB4 := Lib.hid (HBB.out.trans (hb4.mono HBB.out.size))
            have HBW4 := Lib.hid (HB4.out.trans (hb4.mono HB4.out.size))
            clear hw4 hb4 R1 R2
            go_wp2_with fail
            go_ret2
            exact ⟨u4, by rw [HFIN.out.2]; rfl, by rw [HFIN.out.1]; exact HL.out.keep HBB4.out, HBW4.out⟩
          · have h66 := HA6.out
            rw [if_neg hce] at h66
            subst h66
            go_wp2_with (first
              | (go_at_call 49
                 refine HR.out.mono ?_
                 rintro e w3 ⟨v3, rfl, ho3, hr3, hb3⟩
                 obtain ⟨A3, c3, hv3, -, -⟩ := ho3.shape
                 subst hv3
                 have hB3 := HB3.out.trans (hb3.mono HB3.out.size)
                 have hy3 : Bytes w3 A3 (recB x) := Src.of_own ho3
                 have hz3 : Bytes w3 (some ⟨g, o + at_, none⟩) z := HZ.out.keep hB3
                 have R1 : Hid (∀ W, (∃ n, W = w3.drewN n) → (convert 22 9 (.slice A3 (recB x).length c3)).run Try.prog W = .ok (.string S1) W) := Lib.hid (fun W hW => by obtain ⟨q, rfl⟩ := hW; rw [HSA.out]; exact back_text _ _ _ _ _ rfl (bytes_drewN hy3 q))
                 have R2 : Hid (∀ (ln cc : Nat), ln = 6 + n → ∀ W, (∃ n, W = w3.drewN n) → (convert 22 9 (.slice (some ⟨g, o + at_, none⟩) ln cc)).run Try.prog W = .ok (.string S2) W) := Lib.hid (fun ln cc hln W hW => by obtain ⟨q, rfl⟩ := hW; rw [HSB.out]; exact back_text _ _ _ _ z (by have := HZL.out; omega) (bytes_drewN hz3 q))
                 have HB4 := Lib.hid hB3
                 have HBB := Lib.hid (HB2.out.trans (hb3.mono HB2.out.size))
                 clear ho3 hr3 hb3 hB3 hy3 hz3)
              | fail)
            refine wp_region_quiet_lit (by kernel_rfl) (by kernel_rfl) ?_
            repeat (go_big_quiet_step (fail))
            go_big_quiet_want
            refine quiet_conv 22 9 (.tmp 50) rfl _ _ rfl R1.out ?_
            go_big_quiet_on
            try simp only [Act.put, List.setIfInBounds_toArray, List.set_cons_zero, List.set_cons_succ]
            repeat (go_big_quiet_step (fail))
            go_big_quiet_want
            refine quiet_conv 22 9 (.tmp 58) rfl _ _ rfl (R2.out _ _ (by omega)) ?_
            go_big_quiet_on
            try simp only [Act.put, List.setIfInBounds_toArray, List.set_cons_zero, List.set_cons_succ]
            repeat (go_big_quiet_step (fail))
            refine wpQuiet_nil ?_
            intro w4 hw4
            obtain ⟨k4, hw4⟩ := hw4
            have hb4 : Below w3.heap.size w3 w4 := by rw [hw4]; exact ⟨rfl, rfl, rfl, Nat.le_refl _, fun _ _ => rfl⟩
            have HBB4 := Lib.hid (HBB.out.trans (hb4.mono HBB.out.size))
            have HBW4 := Lib.hid (HB4.out.trans (hb4.mono HB4.out.size))
            clear hw4 hb4 R1 R2
            go_wp2_with fail
            go_ret2
            exact ⟨u4, by rw [HFIN.out.2]; rfl, by rw [HFIN.out.1]; exact HL.out.keep HBB4.out, HBW4.out⟩
end Go.Proofs.Ytnlkjhhocehhaaa
