/- Scan: the records of bytes. -/
import Derived.Test.YtnlkjhhocehhaaaScan
namespace Go.Proofs.Ytnlkjhhocehhaaa
set_option linter.unusedVariables false
open Go Go.RowKit Go.Proofs Sha
theorem info22' : (Try.prog.info? 22).map (fun i => (i.zero, i.size, i.bytes)) = some (some (.slice none 0 0), 1, 24) := by kernel_rfl
theorem own_disj {w : World} {e e' : TypeId} {s s' n n' : Nat} {v v' : Value} {xs xs' : List Value} (h : Own w e s v n xs) (h' : Own w e' s' v' n' xs') (hne : e ≠ e') : ∀ k, rowOf v k → ¬ rowOf v' k := fun k hk hk' => by
  obtain ⟨cur, hb⟩ := h.own_block hk
  exact h'.blk_ne hb hne.symm hk'
/-- A byte slice whose block is one of P's; a row of such. -/
def SlP (P : Nat → Prop) (w : World) (u : Value) (x : List UInt8) : Prop := Own w 5 1 u x.length (byteVals x) ∧ ∀ g, rowOf u g → P g
def LsP (P : Nat → Prop) (w : World) (v : Value) (l : List (List UInt8)) : Prop := ∃ us : List Value, us.length = l.length ∧ Own w 22 1 v l.length us ∧ (∀ g, rowOf v g → P g) ∧ ∀ i, i < l.length → SlP P w (us.getD i undef) (l.getD i [])
section
variable {P P' S : Nat → Prop} {w w' : World} {u v : Value} {x : List UInt8} {l : List (List UInt8)}
theorem SlP.sl (h : SlP P w u x) : Sl w u x := Sl.of_own h.1
theorem LsP.ls (h : LsP P w v l) : Ls w v l := by obtain ⟨us, h1, h2, _, h4⟩ := h; exact ⟨us, h1, h2, fun i hi => (h4 i hi).sl⟩
theorem SlP.fr (h : SlP P w u x) (hf : Fr S w w') (hs : ∀ k, S k → ¬ P k) : SlP P w' u x := ⟨Own.fr h.1 hf (fun k hk hk2 => hs k hk (h.2 k hk2)), h.2⟩
theorem LsP.fr (h : LsP P w v l) (hf : Fr S w w') (hs : ∀ k, S k → ¬ P k) : LsP P w' v l := by
  obtain ⟨us, h1, h2, h3, h4⟩ := h
  exact ⟨us, h1, Own.fr h2 hf (fun k hk hk2 => hs k hk (h3 k hk2)), h3, fun i hi => (h4 i hi).fr hf hs⟩
theorem LsP.keep (h : LsP P w v l) (hb : Below w.heap.size w w') : LsP P w' v l := h.fr (Fr.of_below hb nob) (fun _ h => h.elim)
theorem SlP.keep (h : SlP P w u x) (hb : Below w.heap.size w w') : SlP P w' u x := h.fr (Fr.of_below hb nob) (fun _ h => h.elim)
theorem SlP.mono (h : SlP P w u x) (hp : ∀ k, P k → P' k) : SlP P' w u x := ⟨h.1, fun g hg => hp g (h.2 g hg)⟩
theorem LsP.mono (h : LsP P w v l) (hp : ∀ k, P k → P' k) : LsP P' w v l := by
  obtain ⟨us, h1, h2, h3, h4⟩ := h
  exact ⟨us, h1, h2, fun g hg => hp g (h3 g hg), fun i hi => (h4 i hi).mono hp⟩
theorem LsP.nil : LsP P w (.slice none 0 0) [] := ⟨[], rfl, Own.nil _ _ _, (fun g hg => by cases hg), (fun i h => absurd h (by simp))⟩
theorem LsP.snoc {us : List Value} (h1 : us.length = l.length) (h2 : Own w 22 1 v (l.length + 1) (us ++ [u])) (h3 : ∀ g, rowOf v g → P g) (h4 : ∀ i, i < l.length → SlP P w (us.getD i undef) (l.getD i [])) (hu : SlP P w u x) : LsP P w v (l ++ [x]) := by
  refine ⟨us ++ [u], by simp [h1], by rw [List.length_append]; exact h2, h3, fun i hi => ?_⟩
  rw [List.length_append, List.length_singleton] at hi
  rcases Nat.lt_or_ge i l.length with h | h
  · have e1 : (us ++ [u]).getD i undef = us.getD i undef := by simp only [List.getD_eq_getElem?_getD]; rw [List.getElem?_append_left (by omega)]
    have e2 : (l ++ [x]).getD i [] = l.getD i [] := by simp only [List.getD_eq_getElem?_getD]; rw [List.getElem?_append_left (by omega)]
    rw [e1, e2]; exact h4 i h
  · obtain rfl : i = l.length := by omega
    have e1 : (us ++ [u]).getD l.length undef = u := by rw [← h1]; simp
    have e2 : (l ++ [x]).getD l.length [] = x := by simp
    rw [e1, e2]; exact hu
end
/-- The records of bytes. -/
def scanF : Nat → List UInt8 → List (List UInt8) × Nat
  | 0, _ => ([], 0)
  | f + 1, b => match nextB b with
    | none => ([], 0)
    | some x => (x :: (scanF f (b.drop (6 + x.length))).1, 6 + x.length + (scanF f (b.drop (6 + x.length))).2)
def scanB (b : List UInt8) : List (List UInt8) × Nat := scanF (b.length + 1) b
theorem nextB_len {b x : List UInt8} (h : nextB b = some x) : 6 + x.length ≤ b.length ∧ x.length ≤ 4000 := by
  unfold nextB at h
  split at h
  · cases h
  · split at h
    · cases h
    · split at h
      · simp only [Option.some.injEq] at h
        subst h
        have : 6 ≤ nextN b := by unfold nextN; omega
        rw [List.length_drop, List.length_take]; omega
      · cases h
theorem scanF_fuel : ∀ (f g : Nat) (b : List UInt8), b.length < f → b.length < g → scanF f b = scanF g b
  | 0, _, b, h, _ => by omega
  | f + 1, 0, b, _, h => by omega
  | f + 1, g + 1, b, hf, hg => by
    rw [scanF, scanF]
    cases hn : nextB b with
    | none => rfl
    | some x =>
      have := nextB_len hn
      have hd : (b.drop (6 + x.length)).length = b.length - (6 + x.length) := List.length_drop
      simp only
      rw [scanF_fuel f g _ (by omega) (by omega)]
theorem scanB_none {b : List UInt8} (h : nextB b = none) : scanB b = ([], 0) := by unfold scanB; rw [scanF, h]
theorem scanB_some {b x : List UInt8} (h : nextB b = some x) : scanB b = (x :: (scanB (b.drop (6 + x.length))).1, 6 + x.length + (scanB (b.drop (6 + x.length))).2) := by
  have h1 := nextB_len h
  have hd : (b.drop (6 + x.length)).length = b.length - (6 + x.length) := List.length_drop
  unfold scanB
  rw [scanF, h]
  simp only
  rw [scanF_fuel b.length ((b.drop (6 + x.length)).length + 1) _ (by omega) (by omega)]
def newer (w : World) : Nat → Prop := fun k => w.heap.size ≤ k
set_option maxRecDepth 100000 in
set_option maxHeartbeats 2000000 in
theorem scan_any (b : List UInt8) (A : Option Addr) (c : Nat) (w : World) (hb : Bytes w A b) (hl : b.length ≤ 1000000) (hc : b.length ≤ c) (hcm : c ≤ maxLen) (hA : A = none → c = 0) :
    Calls Try.prog 45 #[.slice A b.length c] w fun e w' => ∃ v, e = .returned (.tuple #[v, .int .i64 ((scanB b).2 : Int)]) ∧ LsP (newer w) w' v (scanB b).1 ∧ Below w.heap.size w w' := by
  obtain ⟨i2, hi2, hy0, hy1, hy2⟩ := info_parts info22'
  have HB := Lib.hid hb
  obtain ⟨m, hm⟩ : ∃ m, m = b.length := ⟨_, rfl⟩
  rw [← hm] at hl hc ⊢
  have HM := Lib.hid hm
  clear hb hm
  have hmc : (m : Int) ≤ (c : Int) := by omega
  go_enter Try.func45, Try.ntmps45
  go_wp2_with fail
  go_loopw [4, 5] (fun c4 c5 wr => ∃ (at_ : Nat) (r : List (List UInt8)), at_ ≤ m ∧ r.length ≤ at_ ∧ c5 = .int .i64 (at_ : Int) ∧ LsP (newer w) wr c4 r ∧ (scanB b).1 = r ++ (scanB (b.drop at_)).1 ∧ (scanB b).2 = at_ + (scanB (b.drop at_)).2 ∧ Below w.heap.size w wr) (fun _ c5 _ => m - (intOf c5).toNat)
  case atStart => exact ⟨0, [], by omega, by simp, rfl, LsP.nil, by simp, by simp, Below.refl _ _⟩
  case round =>
    obtain ⟨at_, r, hat, hrl, rfl, hL, hs1, hs2, hBl⟩ := hrel
    have HL := Lib.hid hL
    have HS1 := Lib.hid hs1
    have HS2 := Lib.hid hs2
    have HBl := Lib.hid hBl
    have hai : (at_ : Int) ≤ (m : Int) := by omega
    have hai0 : (0 : Int) ≤ (at_ : Int) := by omega
    have hac : (at_ : Int) ≤ (c : Int) := by omega
    clear hL hs1 hs2 hBl
    have hbr := HB.out.keep HBl.out
    have hdl : (b.drop at_).length = m - at_ := by rw [List.length_drop, ← HM.out]
    have hNA : ∀ A' c', Bytes wr A' (b.drop at_) → m - at_ ≤ c' → c' ≤ maxLen → Calls Try.prog 79 #[.slice A' (m - at_) c'] wr (NextAns wr (nextB (b.drop at_))) := fun A' c' h1 h2 h3 => by
      have := next_any (b.drop at_) A' c' wr h1 (by omega) (by omega) h3
      rwa [hdl] at this
    have hn0 := fun h : nextB (b.drop at_) = none => scanB_none h
    have hn1 := fun x (h : nextB (b.drop at_) = some x) => scanB_some h
    have hn2 := fun x (h : nextB (b.drop at_) = some x) => nextB_len h
    have hdd : ∀ k, (b.drop at_).drop k = b.drop (at_ + k) := fun k => by rw [List.drop_drop]
    obtain ⟨rr, hrr⟩ : ∃ rr, rr = nextB (b.drop at_) := ⟨_, rfl⟩
    rw [← hrr] at hNA hn0 hn1 hn2
    have hfin : ∀ A' c', Bytes wr A' (b.drop at_) → m - at_ ≤ c' → c' ≤ maxLen → Hid (Calls Try.prog 79 #[.slice A' (m - at_) c'] wr (NextAns wr rr)) := fun A' c' h1 h2 h3 => Lib.hid (hNA A' c' h1 h2 h3)
    have HN0 := Lib.hid hn0
    have HN1 := Lib.hid hn1
    have HN2 := Lib.hid hn2
    have HDD := Lib.hid hdd
    have HDL := Lib.hid hdl
    clear hn0 hn1 hn2 hdd hdl hNA hrr
    obtain ⟨wo, rfl⟩ : ∃ wo : World, wo = wr := ⟨_, rfl⟩
    by_cases hca : c = at_
    · have HC := hfin A 0 (by
        have : b.drop at_ = [] := List.eq_nil_of_length_eq_zero (by rw [HDL.out]; omega)
        rw [this]; exact Bytes.nil _ _) (by omega) (by unfold maxLen; omega)
      clear hfin hbr
      cases rr with
      | none =>
        go_wp2_with (first
          | (go_at_call 79
             refine HC.out.mono ?_
             rintro e w2 ⟨hb2, rfl⟩)
          | fail)
        go_ret2
        have h1 := HS1.out
        have h2 := HS2.out
        rw [HN0.out trivial] at h1 h2
        refine ⟨_, by rw [h2]; rfl, ?_, HBl.out.trans (hb2.mono HBl.out.size)⟩
        rw [h1]
        simp only [List.append_nil]
        exact HL.out.keep hb2
      | some x =>
        exfalso
        have := (HN2.out x rfl).1
        rw [HDL.out] at this
        omega
    · have HC := hfin (Option.map (fun x => x.add at_) A) (c - at_) (by
        by_cases hm0 : m = at_
        · have : b.drop at_ = [] := List.eq_nil_of_length_eq_zero (by rw [HDL.out]; omega)
          rw [this]; exact Bytes.nil _ _
        · obtain ⟨g, o, rfl, -, -⟩ := hbr.at_ (by have := HDL.out; rw [List.length_drop] at this; omega)
          rw [Option.map_some, Addr.add_mid]
          exact hbr.drop) (by omega) (by omega)
      clear hfin hbr
      cases rr with
      | none =>
        go_wp2_with (first
          | (go_at_call 79
             refine HC.out.mono ?_
             rintro e w2 ⟨hb2, rfl⟩)
          | fail)
        go_ret2
        have h1 := HS1.out
        have h2 := HS2.out
        rw [HN0.out trivial] at h1 h2
        refine ⟨_, by rw [h2]; rfl, ?_, HBl.out.trans (hb2.mono HBl.out.size)⟩
        rw [h1]
        simp only [List.append_nil]
        exact HL.out.keep hb2
      | some x =>
        have hx := HN2.out x rfl
        rw [HDL.out] at hx
        obtain ⟨hx1, hx2⟩ := hx
        have hs := HN1.out x rfl
        rw [HDD.out] at hs
        have HSS := Lib.hid hs
        clear hs
        obtain ⟨xl, hxl⟩ : ∃ xl, xl = x.length := ⟨_, rfl⟩
        rw [← hxl] at hx1 hx2
        have HXL := Lib.hid hxl
        have hne : (((6 + xl : Nat) : Int) == 0) = false := by rw [beq_eq_false_iff_ne]; omega
        have hne2 : ((6 + (xl : Int)) == 0) = false := by rw [beq_eq_false_iff_ne]; omega
        have hsum : (at_ : Int) + (6 + (xl : Int)) ≤ 1000000 := by omega
        obtain ⟨us, hu1, hu2, hu3, hu4⟩ := HL.out
        have HU3 := Lib.hid hu3
        have HU4 := Lib.hid hu4
        have HU2 := Lib.hid hu2
        clear hu2 hu3 hu4 hxl
        go_wp2_with (first
          | (go_at_call 79
             refine HC.out.mono ?_
             rintro e w2 ⟨hb2, v2, rfl, hown, hrow⟩
             rw [← HXL.out]
             obtain ⟨A2, c2, hv2, -, -⟩ := hown.shape
             rw [← HXL.out] at hv2
             have hb3 : Below wo.heap.size wo (w2.alloc (.cells #[v2] 22)) := hb2.alloc hb2.size _
             have hO3 : Own (w2.alloc (.cells #[v2] 22)) 22 1 u4 r.length us := Own.fr HU2.out (Fr.of_below hb3 nob) (fun _ h => h.elim)
             have hS3 : Src (w2.alloc (.cells #[v2] 22)) 1 (some ⟨w2.heap.size, 0, none⟩) 1 [v2] := Src.of_new w2 22 #[v2] 1 rfl
             have hown3 : Own (w2.alloc (.cells #[v2] 22)) 5 1 v2 x.length (byteVals x) := Own.fr hown ((Fr.refl nob w2).alloc _) (fun _ h => h.elim)
             have HV2 := Lib.hid hv2
             subst hv2
             have HO3 := Lib.hid hO3
             have HS3 := Lib.hid hS3
             have HB3 := Lib.hid hb3
             have HOW := Lib.hid hown3
             have HROW := Lib.hid hrow
             clear hb3 hO3 hS3 hown3 hrow hown)
          | (at_builtin
             refine wpList_append_o _ rfl (.tmp 19) (.tmp 21) 48 rfl 22 i2 (.slice none 0 0) 1 24 Try.underlying48 hi2 hy0 hy1 hy2 (by rfl) (by omega) u4 r.length us (by rfl) HO3.out (some ⟨w2.heap.size, 0, none⟩) 1 1 _ (by rfl) HS3.out (by simp [Value.oneCell']) (by simp only [maxLen]; omega) (by omega) ?_
             intro v5 w5 hown5 hf5 hr5
             simp only [Act.put, List.setIfInBounds_toArray, List.set_cons_zero, List.set_cons_succ])
          | fail)
        go_roundw
        case rel =>
          have h1 := HS1.out
          have h2 := HS2.out
          rw [HSS.out] at h1 h2
          have hr5' : ∀ g, rowOf v5 g → newer w g := fun g hg => (hr5 g hg).elim (HU3.out g) (fun h => by
            have := HBl.out.size
            have := HB3.out.size
            unfold newer; omega)
          have hx5 : SlP (newer w) w5 (.slice A2 xl c2) x := by
            refine ⟨Own.fr HOW.out hf5 (own_disj HO3.out HOW.out (by decide)), fun g hg => ?_⟩
            have := HROW.out g hg
            have := HBl.out.size
            unfold newer; omega
          have h45 : ∀ i, i < r.length → SlP (newer w) w5 (us.getD i undef) (r.getD i []) := fun i hi => by
            have h9 := (HU4.out i hi).keep HB3.out
            exact ⟨Own.fr h9.1 hf5 (own_disj HO3.out h9.1 (by decide)), h9.2⟩
          refine ⟨at_ + (6 + xl), r ++ [x], by omega, by rw [List.length_append, List.length_singleton]; omega, by go_num, LsP.snoc hu1 hown5 hr5' h45 hx5, ?_, ?_, (HBl.out.trans (HB3.out.mono HBl.out.size)).trans (hf5.below (Nat.le_trans HBl.out.size HB3.out.size) (fun k hk => HU3.out k hk))⟩
          · rw [h1, HXL.out, List.append_assoc]; rfl
          · rw [h2, HXL.out]; omega
        case measure => simp [intOf]; omega
end Go.Proofs.Ytnlkjhhocehhaaa
