/- The contract of the reference's times: a number of 16 bits a place times another one. -/
import Derived.Test.YtnlkjhhocehhaaaAbove
import Derived.Deep.OwnRows
namespace Go.Proofs.Ytnlkjhhocehhaaa
set_option linter.unusedVariables false
open Go Go.RowKit Go.Proofs Sha
theorem length_tStep (a b : List Nat) (i k : Nat) (o : List Nat) : (tStep a b i k o).length = o.length := by simp [tStep]
theorem length_tRow (a b : List Nat) (i : Nat) : ∀ (k : Nat) (o : List Nat), (tRow a b i k o).length = o.length
  | 0, _ => rfl
  | k + 1, o => by rw [tRow, length_tStep, length_tRow a b i k]
theorem length_tAll (a b : List Nat) : ∀ (i : Nat) (o : List Nat), (tAll a b i o).length = o.length
  | 0, _ => rfl
  | i + 1, o => by rw [tAll, length_tRow, length_tAll a b i]
theorem length_timesL (a b : List Nat) : (timesL a b).length = a.length + b.length := by unfold timesL; rw [length_tAll]; simp
theorem vals64_set (l : List Nat) (i x : Nat) : ((vals64 l).toArray).setIfInBounds i (.int .u64 (x : Int)) = (vals64 (l.set i x)).toArray := by
  simp [vals64, List.map_set]
theorem vals64_cell {w : World} {g : Nat} {t : TypeId} {l : List Nat} (h : Blk w g t (vals64 l).toArray) (i : Nat) (hi : i < l.length) : w.cell? ⟨g, i, none⟩ = some (.int .u64 ((l.getD i 0 : Nat) : Int)) := by
  rw [h.cell]; simp [vals64, hi]
theorem wrapU64 (n : Int) : IntKind.u64.wrap n = n % 18446744073709551616 := by
  simp [IntKind.wrap, IntKind.bits, IntKind.signed]
theorem u64_mul (u x y : Nat) : ((u : Int) + (x : Int) * (y : Int) % 18446744073709551616) % 18446744073709551616 = (((u + x * y) % M64 : Nat) : Int) := by
  rw [show ((u : Int) + (x : Int) * (y : Int) % 18446744073709551616) % 18446744073709551616 = ((u : Int) + (x : Int) * (y : Int)) % 18446744073709551616 from by omega]
  simp [M64]
theorem u64_quo (v U : Nat) : ((v : Int) + (U : Int) / 65536 % 18446744073709551616) % 18446744073709551616 = (((v + U / 65536) % M64 : Nat) : Int) := by
  rw [show ((v : Int) + (U : Int) / 65536 % 18446744073709551616) % 18446744073709551616 = ((v : Int) + (U : Int) / 65536) % 18446744073709551616 from by omega]
  simp [M64]
/-- What lies: the numbers that came in, the number that grows. -/
structure TM (w W : World) (p : Nat) (A B : Option Addr) (a b o : List Nat) : Prop where
  ha : U64s W A a
  hb : U64s W B b
  ho : Blk W p 35 (vals64 o).toArray
  bel : Below p w W
  len : o.length = a.length + b.length
theorem U64s.below {B : Nat} {w w' : World} {A : Option Addr} {l : List Nat} (h : U64s w A l) (hb : Below B w w') (hA : ∀ g o, 0 < l.length → A = some ⟨g, o, none⟩ → g < B) : U64s w' A l :=
  ⟨h.1, fun hm => by
    obtain ⟨g, o, rfl, hg, hc⟩ := h.2 hm
    exact ⟨g, o, rfl, Nat.lt_of_lt_of_le hg hb.size, fun j u hj => (hb.cell (p := ⟨g, o + j, none⟩) (hA g o hm rfl)).trans (hc j u hj)⟩⟩
theorem made64 (n : Nat) : madeCells #[Value.int .u64 0] n = (vals64 (List.replicate n 0)).toArray := by
  apply Array.ext'
  simp [madeCells, vals64, Nat.mod_one, List.map_const', List.map_const]
theorem info35 : (Try.prog.info? 35).map (fun i => (i.zero, i.size, i.bytes)) = some (some (.int .u64 0), 1, 8) := by kernel_rfl
theorem TM.keep {w W W' : World} {p : Nat} {A B : Option Addr} {a b o : List Nat} (h : TM w W p A B a b o) (hb : Below W.heap.size W W') (hp : p ≤ W.heap.size) : TM w W' p A B a b o :=
  ⟨h.ha.below hb (fun g o hl hA => by obtain ⟨g', o', h1, h2, _⟩ := h.ha.2 hl; rw [hA] at h1; cases h1; exact h2),
   h.hb.below hb (fun g o hl hA => by obtain ⟨g', o', h1, h2, _⟩ := h.hb.2 hl; rw [hA] at h1; cases h1; exact h2),
   h.ho.below hb h.ho.lt, h.bel.trans (hb.mono hp), h.len⟩
theorem TM.set_ {w W : World} {p : Nat} {A B : Option Addr} {a b o : List Nat} (h : TM w W p A B a b o) (hA : ∀ g o, 0 < a.length → A = some ⟨g, o, none⟩ → g < p) (hB : ∀ g o, 0 < b.length → B = some ⟨g, o, none⟩ → g < p) (i x : Nat) :
    TM w (W.setCell ⟨p, i, none⟩ (.int .u64 (x : Int))) p A B a b (o.set i x) :=
  ⟨h.ha.below ((Below.refl p W).setCell (p := ⟨p, i, none⟩) (Nat.le_refl _) _) hA, h.hb.below ((Below.refl p W).setCell (p := ⟨p, i, none⟩) (Nat.le_refl _) _) hB,
   by have := h.ho.set_ i (.int .u64 (x : Int)); rwa [vals64_set] at this, h.bel.setCell (p := ⟨p, i, none⟩) (Nat.le_refl _) _, by rw [List.length_set]; exact h.len⟩
set_option maxRecDepth 100000 in
set_option maxHeartbeats 2000000 in
theorem times_any (a b : List Nat) (A B : Option Addr) (n c m d : Nat) (w : World) (hn : n = a.length) (hm : m = b.length) (ha : U64s w A a) (hb : U64s w B b) (hn1 : n ≤ 100) (hm1 : m ≤ 100) :
    Calls Try.prog 86 #[.slice A n c, .slice B m d] w fun e w' => e = .returned (.slice (some ⟨w.heap.size, 0, none⟩) (n + m) (n + m)) ∧ Below w.heap.size w w' ∧ U64s w' (some ⟨w.heap.size, 0, none⟩) (timesL a b) := by
  obtain ⟨i0, hi0, hz0, hz1, hz2⟩ := info_parts info35
  have hAl : ∀ g o, 0 < a.length → A = some ⟨g, o, none⟩ → g < w.heap.size := fun g o hl hA => by obtain ⟨g', o', h1, h2, _⟩ := ha.2 hl; rw [hA] at h1; cases h1; exact h2
  have hBl : ∀ g o, 0 < b.length → B = some ⟨g, o, none⟩ → g < w.heap.size := fun g o hl hA => by obtain ⟨g', o', h1, h2, _⟩ := hb.2 hl; rw [hA] at h1; cases h1; exact h2
  have hT : TM w (w.alloc (.cells (vals64 (List.replicate (n + m) 0)).toArray 35)) w.heap.size A B a b (List.replicate (n + m) 0) :=
    ⟨ha.below ((Below.refl _ w).alloc (Nat.le_refl _) _) hAl, hb.below ((Below.refl _ w).alloc (Nat.le_refl _) _) hBl, Blk.new _ _ _, (Below.refl _ w).alloc (Nat.le_refl _) _, by simp [hn, hm]⟩
  have Hn := Lib.hid hn
  have Hm := Lib.hid hm
  have HA := Lib.hid hAl
  have HB := Lib.hid hBl
  clear hn hm ha hb hAl hBl
  go_enter Try.func86, Try.ntmps86
  go_wp2_with (first
    | (refine wpList_make_row _ rfl (.tmp 12) (.tmp 12) 91 rfl 35 i0 (.int .u64 0) Try.underlying91 hi0 hz0 hz1 rfl .i64 .i64 (n + m) rfl rfl (by rw [hz2]; omega) (by omega) ?_
       rw [made64])
    | fail)
  obtain ⟨p, hp⟩ : ∃ p, p = w.heap.size := ⟨_, rfl⟩
  rw [← hp] at HA HB hT ⊢
  obtain ⟨O0, hO0⟩ : ∃ O, O = List.replicate (n + m) 0 := ⟨_, rfl⟩
  rw [← hO0] at hT ⊢
  have hfin : timesL a b = tAll a b n O0 := by unfold timesL; rw [← Hn.out, ← Hm.out, hO0]
  have HF := Lib.hid hfin
  have HP := Lib.hid hp
  clear hfin hO0 hp hi0 hz0 hz1 hz2
  go_loopw [6, 7] (fun c6 _ wr => ∃ i : Nat, i ≤ n ∧ c6 = .int .i64 i ∧ TM w wr p A B a b (tAll a b i O0)) (fun c6 _ _ => n - (intOf c6).toNat)
  case atStart => exact ⟨0, by omega, rfl, hT⟩
  case round =>
    clear hT
    obtain ⟨i, hi, rfl, hR⟩ := hrel
    by_cases hin : i < n
    · have hd : decide ((i : Int) < (n : Int)) = true := decide_eq_true (by omega)
      obtain ⟨O, HO⟩ : ∃ O, Hid (O = tAll a b i O0) := ⟨_, rfl⟩
      rw [← HO.out] at hR
      obtain ⟨wo, rfl⟩ : ∃ wo : World, wo = wr := ⟨_, rfl⟩
      go_wp2_with fail
      go_loopw [7] (fun c7 wr => ∃ k : Nat, k ≤ m ∧ c7 = .int .i64 k ∧ TM w wr p A B a b (tRow a b i k O)) (fun c7 _ => m - (intOf c7).toNat)
      case atStart => exact ⟨0, by omega, rfl, hR⟩
      case round =>
        clear hR
        obtain ⟨k, hk, rfl, hR⟩ := hrel
        by_cases hkm : k < m
        · have hdk : decide ((k : Int) < (m : Int)) = true := decide_eq_true (by omega)
          obtain ⟨o, ho⟩ : ∃ o, o = tRow a b i k O := ⟨_, rfl⟩
          rw [← ho] at hR
          have hol : o.length = n + m := by rw [hR.len, ← Hn.out, ← Hm.out]
          obtain ⟨ga, oa, hA, hga, ca⟩ := hR.ha.at_ i (by have := Hn.out; omega)
          obtain ⟨gb, ob, hB, hgb, cb⟩ := hR.hb.at_ k (by have := Hm.out; omega)
          subst hA hB
          obtain ⟨x, hx⟩ : ∃ x, x = a.getD i 0 := ⟨_, rfl⟩
          obtain ⟨y, hy⟩ : ∃ y, y = b.getD k 0 := ⟨_, rfl⟩
          obtain ⟨u, hu⟩ : ∃ u, u = o.getD (i + k) 0 := ⟨_, rfl⟩
          have cu := vals64_cell hR.ho (i + k) (by omega)
          have fu := hR.ho.frozen (i + k)
          have lp := hR.ho.lt
          rw [← hx] at ca
          rw [← hy] at cb
          rw [← hu] at cu
          have HX := Lib.hid hx
          have HY := Lib.hid hy
          have HU := Lib.hid hu
          have Ho := Lib.hid ho
          have Hol := Lib.hid hol
          clear hx hy hu ho hol
          have hz1 : (0 : Int) ≤ (i : Int) + (k : Int) := by omega
          have hz2 : (i : Int) + (k : Int) < ((n + m : Nat) : Int) := by omega
          have hz2' : (i : Int) + (k : Int) < (n : Int) + (m : Int) := by omega
          have hz3 : ((i : Int) + (k : Int)).toNat = i + k := by omega
          go_wp2_with fail
          refine wp_region_pre 17 0 (by kernel_rfl) (by kernel_rfl) rfl ?_
          simp only [List.take_succ_cons, List.take_zero, List.drop_succ_cons, List.drop_zero]
          repeat (go_big_quiet_step (fail))
          refine wpQuiet_nil ?_
          intro w2 hb2
          have hR2 := hR.keep hb2 (by omega)
          have c2 : w2.cell? ⟨p, i + k, none⟩ = some (.int .u64 (u : Int)) := (hb2.cell (p := ⟨p, i + k, none⟩) lp).trans cu
          have f2 := hR2.ho.frozen (i + k)
          go_wp2_with fail
          obtain ⟨U, hU⟩ : ∃ U : Nat, U = (u + x * y) % M64 := ⟨_, rfl⟩
          have eU : IntKind.u64.wrap ((u : Int) + IntKind.u64.wrap ((x : Int) * (y : Int))) = (U : Int) := by rw [wrapU64, wrapU64, hU]; exact u64_mul u x y
          rw [eU]
          have hR3 := hR2.set_ HA.out HB.out (i + k) U
          obtain ⟨w3, hw3⟩ : ∃ w3, w3 = w2.setCell ⟨p, i + k, none⟩ (.int .u64 (U : Int)) := ⟨_, rfl⟩
          rw [← hw3] at hR3 ⊢
          have HU2 := Lib.hid hU
          clear hw3 eU hU hR2 c2 f2 hb2 hR ca cb cu fu lp hga hgb
          obtain ⟨o1, ho1⟩ : ∃ o1, o1 = o.set (i + k) U := ⟨_, rfl⟩
          rw [← ho1] at hR3
          have hol1 : o1.length = n + m := by rw [ho1, List.length_set, Hol.out]
          have hU1 : o1.getD (i + k) 0 = U := by rw [ho1, List.getD_eq_getElem?_getD, List.getElem?_set_self (by rw [Hol.out]; omega)]; rfl
          obtain ⟨v, hv⟩ : ∃ v, v = o1.getD (i + k + 1) 0 := ⟨_, rfl⟩
          have cu := vals64_cell hR3.ho (i + k) (by omega)
          have cv := vals64_cell hR3.ho (i + k + 1) (by omega)
          have fv := hR3.ho.frozen (i + k + 1)
          have lp := hR3.ho.lt
          rw [hU1] at cu
          rw [← hv] at cv
          have HV := Lib.hid hv
          have HU1 := Lib.hid hU1
          have Ho1 := Lib.hid ho1
          have Hol1 := Lib.hid hol1
          clear hv hU1 ho1 hol1
          have hz4 : (0 : Int) ≤ (i : Int) + (k : Int) + 1 := by omega
          have hz5 : (i : Int) + (k : Int) + 1 < (n : Int) + (m : Int) := by omega
          have hz6 : ((i : Int) + (k : Int) + 1).toNat = i + k + 1 := by omega
          refine wp_region_pre 16 0 (by kernel_rfl) (by kernel_rfl) rfl ?_
          simp only [List.take_succ_cons, List.take_zero, List.drop_succ_cons, List.drop_zero]
          repeat (go_big_quiet_step (fail))
          refine wpQuiet_nil ?_
          intro w4 hb4
          have hR4 := hR3.keep hb4 (by omega)
          have c4 : w4.cell? ⟨p, i + k + 1, none⟩ = some (.int .u64 (v : Int)) := (hb4.cell (p := ⟨p, i + k + 1, none⟩) lp).trans cv
          have f4 := hR4.ho.frozen (i + k + 1)
          have c5 : ∀ val, (w4.setCell ⟨p, i + k + 1, none⟩ val).cell? ⟨p, i + k, none⟩ = some (.int .u64 (U : Int)) := fun val => by
            rw [(hR4.ho.set_ (i + k + 1) val).cell]
            rw [Array.getElem?_setIfInBounds_ne (by omega), ← hR4.ho.cell]
            exact (hb4.cell (p := ⟨p, i + k, none⟩) lp).trans cu
          have f5 : ∀ val, (w4.setCell ⟨p, i + k + 1, none⟩ val).frozen? ⟨p, i + k, none⟩ = false := fun val => (hR4.ho.set_ (i + k + 1) val).frozen _
          go_wp2_with fail
          go_roundw
          case rel =>
            refine ⟨k + 1, by omega, by go_num, ?_⟩
            have e5 : IntKind.u64.wrap ((v : Int) + IntKind.u64.wrap ((U : Int) / 65536)) = (((v + U / 65536) % M64 : Nat) : Int) := by rw [wrapU64, wrapU64]; exact u64_quo v U
            have h := (hR4.set_ HA.out HB.out (i + k + 1) ((v + U / 65536) % M64)).set_ HA.out HB.out (i + k) (U % 65536)
            have et : tRow a b i (k + 1) O = (o1.set (i + k + 1) ((v + U / 65536) % M64)).set (i + k) (U % 65536) := by
              rw [tRow, ← Ho.out]
              have h1 : o.set (i + k) ((o.getD (i + k) 0 + a.getD i 0 * b.getD k 0) % M64) = o1 := by rw [Ho1.out, HU2.out, HU.out, HX.out, HY.out]
              unfold tStep
              simp only [h1]
              have h2 : ∀ z, (o1.set (i + k + 1) z).getD (i + k) 0 = U := fun z => by
                rw [List.getD_eq_getElem?_getD, List.getElem?_set_ne (by omega), ← List.getD_eq_getElem?_getD, HU1.out]
              rw [h2, HU1.out, ← HV.out]
            rw [et, e5]
            exact h
          case measure => simp [intOf]; omega
        · obtain rfl : k = m := by omega
          have hdk : decide ((k : Int) < (k : Int)) = false := decide_eq_false (by omega)
          go_wp2_with fail
          go_roundw
          case rel =>
            refine ⟨i + 1, by omega, by go_num, ?_⟩
            rw [tAll, ← HO.out, ← Hm.out]
            exact hR
          case measure => simp [intOf]; omega
    · obtain rfl : i = n := by omega
      have hd : decide ((i : Int) < (i : Int)) = false := decide_eq_false (by omega)
      go_wp2_with fail
      go_ret
      rw [← HP.out, HF.out]
      have hl : (tAll a b i O0).length = i + m := by rw [hR.len, ← Hn.out, ← Hm.out]
      exact ⟨rfl, hR.bel, ⟨by simp [vals64], fun _ => ⟨p, 0, rfl, hR.ho.lt, fun j u hj => by rw [hR.ho.cell, Nat.zero_add]; simpa using hj⟩⟩⟩
end Go.Proofs.Ytnlkjhhocehhaaa
