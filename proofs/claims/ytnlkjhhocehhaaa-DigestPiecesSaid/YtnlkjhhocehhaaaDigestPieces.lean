/- The law DigestPieces: in whatever pieces bytes come the digest is the same. For every input. -/
import Derived.Test.YtnlkjhhocehhaaaFrame
import Derived.Test.YtnlkjhhocehhaaaShort
import Derived.Test.YtnlkjhhocehhaaaEq25
import Derived.Deep.RegionHeld3
namespace Go.Proofs.Ytnlkjhhocehhaaa.digestPieces
open Go Go.RowKit Go.Proofs Go.Proofs.Ytnlkjhhocehhaaa Sha
set_option linter.unusedVariables false
theorem sum_keep {w w' : World} {g : Nat} {m : List UInt8} (h : SumAt w g m) (hb : Below w.heap.size w w') : SumAt w' g m := by
  obtain ⟨v, h1, h2⟩ := h
  exact ⟨v, Blk.below h1 hb h1.lt, h2.fr (Fr.of_below hb nob) (fun _ h => h.elim)⟩
theorem sumSet_keep {w w' : World} {g : Nat} {m : List UInt8} {B : Nat} (h : SumAt w g m) (hb : Below w.heap.size w w') (hs : ∀ k, sumSet w g k → B ≤ k) : ∀ k, sumSet w' g k → B ≤ k := by
  obtain ⟨v, h1, h2⟩ := h
  rintro k (rfl | ⟨u, hu, hk⟩)
  · exact hs _ (.inl rfl)
  · exact hs _ (.inr ⟨u, (hb.cell (p := ⟨g, 8, none⟩) h1.lt).symm.trans hu, hk⟩)
/-- What every step of the law keeps. -/
structure Inv (w wr : World) (g at_ : Nat) (x : List UInt8) : Prop where
  sum : SumAt wr g (x.take at_)
  set : ∀ k, sumSet wr g k → w.heap.size ≤ k
  bel : Below w.heap.size w wr
theorem Inv.keep {w wr w' : World} {g at_ : Nat} {x : List UInt8} (h : Inv w wr g at_ x) (hb : Below wr.heap.size wr w') : Inv w w' g at_ x :=
  ⟨sum_keep h.sum hb, sumSet_keep h.sum hb h.set, h.bel.trans (hb.mono h.bel.size)⟩
theorem Inv.add {w wr w' : World} {g at_ k : Nat} {x : List UInt8} (h : Inv w wr g at_ x) (hs : SumAt w' g (x.take at_ ++ (x.drop at_).take k)) (hf : Fr (sumSet wr g) wr w') (hset : ∀ k, sumSet w' g k → sumSet wr g k ∨ wr.heap.size ≤ k) : Inv w w' g (at_ + k) x :=
  ⟨by rw [List.take_add]; exact hs, fun k hk => (hset k hk).elim (h.set k) (fun h1 => Nat.le_trans h.bel.size h1), h.bel.trans (hf.below h.bel.size h.set)⟩
theorem add_k (g : Nat) (m y : List UInt8) (A : Option Addr) (c at_ k : Nat) (w : World) (hs : SumAt w g m) (hx : Bytes w A y) (hm : m.length + y.length ≤ 1000000000) (ha : at_ = m.length) (hk : k = y.length) :
    Calls Try.prog 26 #[.pointer (some ⟨g, 0, none⟩), .slice A k c] w fun e w' => e = .returned (.int .i64 ((at_ : Int) + k)) ∧ SumAt w' g (m ++ y) ∧ Fr (sumSet w g) w w' ∧ ∀ k, sumSet w' g k → sumSet w g k ∨ w.heap.size ≤ k := by
  subst ha hk
  exact add_any g m y A c w hs hx hm
theorem cap_le (a k c : Nat) (h : a + k ≤ c) : (a : Int) + (k : Int) ≤ (c : Int) := by omega
theorem rem_bd (z : Int) (l at_ : Nat) (h : at_ ≤ l) : ∃ n : Nat, n ≤ l - at_ ∧ (IntKind.u64.wrap z).tmod ((l : Int) - at_ + 1) = n := by
  refine ⟨((IntKind.u64.wrap z).tmod ((l : Int) - at_ + 1)).toNat, ?_, ?_⟩
  all_goals
    have h0 : 0 ≤ IntKind.u64.wrap z := by rw [wrap_u64]; omega
    rw [Int.tmod_eq_emod_of_nonneg h0]
    have h1 := Int.emod_lt_of_pos (IntKind.u64.wrap z) (show (0 : Int) < (l : Int) - at_ + 1 by omega)
    have h2 := Int.emod_nonneg (IntKind.u64.wrap z) (show (l : Int) - at_ + 1 ≠ 0 by omega)
    omega
theorem cuts_at {w : World} {A : Option Addr} {n c : Nat} {zs : List Int} (h : IsRow .i64 w A n c zs) : ∀ i, i < n → ∃ g o, A = some ⟨g, o, none⟩ ∧ g < w.heap.size ∧ w.cell? ⟨g, o + i, none⟩ = some (.int .i64 (zs.getD i 0)) ∧ (Lit.int .i64 (zs.getD i 0)).wf = true := by
  intro i hi
  rcases h with ⟨rfl, rfl, rfl, rfl⟩ | ⟨x, rfl, hl, hm, hz, hcell, hwz⟩
  · omega
  · obtain ⟨b, off, spot⟩ := x
    have hc0 := hcell i (by omega)
    have hspot : spot = none := by simpa [Addr.add] using World.cell?_spot (hcell 0 (by omega))
    subst hspot
    rw [Addr.add_mid] at hc0
    refine ⟨b, off, rfl, ?_, hc0, hwz _ ?_⟩
    · rcases Nat.lt_or_ge b w.heap.size with h' | h'
      · exact h'
      · simp [World.cell?, Array.getElem?_eq_none h'] at hc0
    · rw [List.getD_eq_getElem?_getD, List.getElem?_eq_getElem (by omega)]; simp
set_option maxRecDepth 100000 in
set_option maxHeartbeats 4000000 in
theorem walk (a0 : Option Addr) (len0 cap0 : Nat) (z0 : List Int) (a1 : Option Addr) (len1 cap1 : Nat) (z1 : List Int) (w : World) (w0 : IsRow .u8 w a0 len0 cap0 z0) (w1 : IsRow .i64 w a1 len1 cap1 z1) :
    Calls Try.prog 4 #[.slice a0 len0 cap0, .slice a1 len1 cap1] w fun e w' => e = .returned (.bool true) ∧ Below w.heap.size w w' := by
  have hcuts := cuts_at w1
  have hcuts' := Lib.hid hcuts
  clear w1 hcuts
  obtain ⟨l, hA⟩ := arg_of w0
  clear w0
  obtain ⟨n, hn⟩ : ∃ n, n = min len0 300 := ⟨_, rfl⟩
  obtain ⟨x, hx⟩ : ∃ x, x = l.take n := ⟨_, rfl⟩
  have hxl : n = x.length := by rw [hx, List.length_take, ← hA.len]; omega
  have hx300 : x.length ≤ 300 := by omega
  have hbx : Bytes w a0 x := by rw [hx]; exact hA.bytes.take _
  have hle := hA.le
  have hcap := hA.cap
  have Hn := Lib.hid hn
  have Hxl := Lib.hid hxl
  have hnc : n ≤ cap0 := by omega
  have hn300 : n ≤ 300 := by omega
  clear hx hA hn hxl
  go_enter Try.func4, Try.ntmps4
  go_wp2_with (first
    | (go_at_call 20
       refine (lives2 w).mono ?_
       rintro e w1 ⟨rfl, hb1⟩
       have HE := Lib.hid (early3 a0 len0 cap0 n w1 hle hcap Hn.out))
    | (go_at_call 21
       refine HE.out.mono ?_
       rintro e w1' ⟨rfl, rfl⟩)
    | (go_at_call 25
       refine (new_any w1).mono ?_
       rintro e w2 ⟨g, rfl, hs2, hg2, hset2, hb2⟩)
    | fail)
  have hI : Inv w w2 g 0 x := ⟨hs2, fun k hk => Nat.le_trans hb1.size (hset2 k hk), hb1.trans (hb2.mono hb1.size)⟩
  go_loopw [6, 7, 8] (fun c6 c7 c8 wr => ∃ i at_ : Nat, i ≤ len1 ∧ i ≤ 20 ∧ at_ ≤ n ∧ c6 = .int .i64 at_ ∧ c7 = .int .i64 i ∧ Inv w wr g at_ x) (fun _ c7 _ _ => 20 - (intOf c7).toNat)
  case atStart => exact ⟨0, 0, by omega, by omega, by omega, rfl, rfl, hI⟩
  case round =>
    obtain ⟨i, at_, hi1, hi20, hat, rfl, rfl, hI⟩ := hrel
    by_cases hlt : i < len1 ∧ i < 20
    · obtain ⟨hl1, hl2⟩ := hlt
      obtain ⟨cg, co, rfl, hcg, hcc, hcw⟩ := hcuts'.out i hl1
      have e1 := (hI.bel.cell (p := ⟨cg, co + i, none⟩) hcg).trans hcc
      clear hcc
      obtain ⟨z, hz⟩ : ∃ z, z = z1.getD i 0 := ⟨_, rfl⟩
      rw [← hz] at e1 hcw
      clear hz
      obtain ⟨k, hk, hrem⟩ := rem_bd z n at_ hat
      have hdec : decide ((i : Int) < len1) = true := by simp; omega
      have hdec2 : decide ((i : Int) < 20) = true := by simp; omega
      have hyl : ((x.drop at_).take k).length = k := by rw [List.length_take, List.length_drop, ← Hxl.out]; omega
      have htl : (x.take at_).length = at_ := by rw [List.length_take, ← Hxl.out]; omega
      have htk : (x.take (at_ + k)).length = at_ + k := by rw [List.length_take, ← Hxl.out]; omega
      have hBb : Bytes w (a0.map (·.add at_)) ((x.drop at_).take k) := by
        by_cases hk0 : k = 0
        · rw [hk0, List.take_zero]; exact Bytes.nil _ _
        · obtain ⟨g0, o0, rfl, _, _⟩ := hbx.at_ (by rw [← Hxl.out]; omega)
          have := (hbx.drop (k := at_)).take k
          rwa [Option.map_some, Addr.add_mid]
      have hBa : cap0 = at_ → Bytes w a0 ((x.drop at_).take k) := fun h => by
        have hk0 : k = 0 := by omega
        rw [hk0, List.take_zero]; exact Bytes.nil _ _
      have Hyl := Lib.hid hyl
      have Htl := Lib.hid htl
      have Htk := Lib.hid htk
      clear hyl htl htk
      by_cases hca : at_ = cap0
      all_goals (first | subst hca | have hca' : ¬ cap0 = at_ := fun h => hca h.symm)
      all_goals
        go_wp2_with (first
          | (go_at_call 26
             refine (add_k g (x.take at_) ((x.drop at_).take k) _ _ at_ k wr hI.sum ?_ (by rw [Htl.out, Hyl.out]; omega) Htl.out.symm Hyl.out.symm).mono ?_
             · first
                 | exact hBb.keep hI.bel
                 | exact (hBa rfl).keep hI.bel
             rintro e w3 ⟨rfl, hs3, hf3, hset3⟩
             have hI3 : Inv w w3 g (at_ + k) x := hI.add hs3 hf3 hset3
             have hI3d : Inv w w3.drew g (at_ + k) x := hI3.keep (Below.refl _ _).drew)
          | fail)
        · have he : ∀ W : World, (Op.equalIn 10000 25 (.agg (byteVals (sha (x.take (at_ + k)))).toArray) (.agg (byteVals (sha (x.take (at_ + k)))).toArray)).run Try.prog W = .ok true W := fun W => by
            rw [eq25 _ _ (length_sha _) (length_sha _)]; simp
          have h0k : (0 : Int) ≤ (at_ : Int) + (k : Int) := by omega
          have hkc := cap_le at_ k _ (Nat.le_trans (by omega : at_ + k ≤ n) hnc)
          go_cut [65] from 14 to 65 (fun c65 wx => c65 = .bool false ∧ Inv w wx g (at_ + k) x)
          case first =>
            go_region_held3 (fun _ => True) (trivial) (first
              | (go_at_call 27
                 refine (now_any g (x.take (at_ + k)) _ (Inv.sum (by assumption : Inv w _ g (at_ + k) x)) (by rw [Htk.out]; omega)).mono ?_
                 rintro e wN ⟨rfl, hbN⟩
                 have hIN : Inv w wN g (at_ + k) x := Inv.keep (by assumption) hbN)
              | (go_at_call 23
                 refine (of_any (x.take (at_ + k)) _ _ _ _ Htk.out.symm ((hbx.take _).keep (Inv.bel (by assumption : Inv w _ g (at_ + k) x))) (by rw [Htk.out]; omega)).mono ?_
                 rintro e wN ⟨rfl, hbN⟩
                 have hIN : Inv w wN g (at_ + k) x := Inv.keep (by assumption) hbN)
              | fail)
            all_goals
              go_wp2_with fail
              go_meet
              exact ⟨rfl, by assumption⟩
          case rest =>
            obtain ⟨rfl, hIc⟩ := hcut
            go_wp2_with fail
            go_roundw
            case rel => exact ⟨i + 1, at_ + k, by omega, by omega, by omega, by go_num, by go_num, hIc⟩
            case measure => simp [intOf]; omega
    · obtain ⟨wo, rfl⟩ : ∃ wo : World, wo = wr := ⟨_, rfl⟩
      have hBb : Bytes w (a0.map (·.add at_)) (x.drop at_) := by
        by_cases hk0 : at_ = n
        · rw [hk0, Hxl.out, List.drop_length]; exact Bytes.nil _ _
        · obtain ⟨g0, o0, rfl, _, _⟩ := hbx.at_ (by rw [← Hxl.out]; omega)
          have := hbx.drop (k := at_)
          rwa [Option.map_some, Addr.add_mid]
      have hBa : cap0 = at_ → Bytes w a0 (x.drop at_) := fun h => by
        have hk0 : at_ = x.length := by rw [← Hxl.out]; omega
        rw [hk0, List.drop_length]; exact Bytes.nil _ _
      have htl : (x.take at_).length = at_ := by rw [List.length_take, ← Hxl.out]; omega
      have hyl : (x.drop at_).length = n - at_ := by rw [List.length_drop, ← Hxl.out]
      have htd : x.take at_ ++ x.drop at_ = x := List.take_append_drop _ _
      have Hyl := Lib.hid hyl
      have Htl := Lib.hid htl
      have Htd := Lib.hid htd
      clear hyl htl htd
      have he : ∀ W : World, (Op.equalIn 10000 25 (.agg (byteVals (sha x)).toArray) (.agg (byteVals (sha x)).toArray)).run Try.prog W = .ok true W := fun W => by
        rw [eq25 _ _ (length_sha _) (length_sha _)]; simp
      have hz1 : (at_ : Int) + ((n - at_ : Nat) : Int) = n := by omega
      have hin : ((i : Int) < len1) → ¬ ((i : Int) < 20) := by omega
      have hex : (decide ((i : Int) < len1) && decide ((i : Int) < 20)) = false := by
        simp; omega
      go_wp2_with (first
        | (go_at_call 26
           refine (add_k g (x.take at_) (x.drop at_) _ _ at_ (n - at_) wo hI.sum ?_ (by rw [Htl.out, Hyl.out]; omega) Htl.out.symm Hyl.out.symm).mono ?_
           · first
               | exact hBb.keep hI.bel
               | exact (hBa (by assumption)).keep hI.bel
           rintro e w3 ⟨rfl, hs3, hf3, hset3⟩
           rw [Htd.out] at hs3
           have hB3 : Below w.heap.size w w3 := hI.bel.trans (hf3.below hI.bel.size hI.set))
        | (go_at_call 27
           refine (now_any g x w3 hs3 (by omega)).mono ?_
           rintro e w4 ⟨rfl, hb4⟩
           have hB4 : Below w.heap.size w w4 := hB3.trans (hb4.mono hB3.size))
        | (go_at_call 23
           refine (of_any x _ _ _ w4 Hxl.out (hbx.keep hB4) (by omega)).mono ?_
           rintro e w5 ⟨rfl, hb5⟩
           have hB5 : Below w.heap.size w w5 := hB4.trans (hb5.mono hB4.size))
        | fail)
      all_goals
        go_ret
        exact ⟨rfl, hB5⟩
end Go.Proofs.Ytnlkjhhocehhaaa.digestPieces
