/- The contracts of slices.Clone of bytes and of (digest.Sum).Now. -/
import Derived.Test.YtnlkjhhocehhaaaAdd
import Derived.Test.YtnlkjhhocehhaaaLate
import Derived.WalkSpells
import Derived.Deep.RegionHeld3
import Derived.Deep.DeepCutAuto
import Derived.Deep.AppendLies
namespace Go.Proofs.Ytnlkjhhocehhaaa
set_option linter.unusedVariables false
open Go Go.RowKit Go.Proofs Sha
set_option maxRecDepth 100000 in
/-- slices.Clone of bytes: a row of its own. -/
theorem clone_any (A : Option Addr) (n c : Nat) (l : List UInt8) (w : World) (hn : n = l.length) (hx : Bytes w A l) (hl : l.length ≤ 1000000000) (hA : A = none → n = 0 ∧ c = 0) :
    Calls Try.prog 74 #[.slice A n c] w fun e w' => ∃ v, e = .returned v ∧ Own w' 5 1 v l.length (byteVals l) ∧ Fr nob w w' ∧ ∀ k, rowOf v k → w.heap.size ≤ k := by
  obtain ⟨i0, hi0, hz0, hz1, hz2⟩ := info_parts info5
  subst hn
  have hne := fun (W : World) => Lib.run_eql_slice_nil (P := Try.prog) W 22 5 A l.length c 0 0 Try.underlying22
  have hnn := fun (W : World) => Lib.run_eql_slice_nil (P := Try.prog) W 22 5 none 0 0 0 0 Try.underlying22
  rcases A with _ | ad
  · obtain ⟨h1, rfl⟩ := hA rfl
    have hl0 : l = [] := List.eq_nil_of_length_eq_zero h1
    subst hl0
    clear hne
    go_enter Try.func74, Try.ntmps74
    go_wp2
    go_ret
    exact ⟨_, rfl, Own.nil _ _ _, Fr.refl _ _, fun k hk => by cases hk⟩
  · clear hA hnn
    have hown : Own (w.alloc (.cells #[] 5)) 5 1 (.slice (some ⟨w.heap.size, 0, none⟩) 0 0) 0 [] := ⟨rfl, .inr ⟨w.heap.size, 0, 0, #[], rfl, Blk.new _ _ _, Nat.le_refl _, Nat.zero_le _, Nat.le_refl _, fun j u h => by simp at h⟩⟩
    have hx1 : Bytes (w.alloc (.cells #[] 5)) (some ad) l := hx.fr ((Fr.refl nob w).alloc _) (fun _ _ _ _ h => h)
    go_enter Try.func74, Try.ntmps74
    go_wp2_with (at_builtin; refine wpList_append_o _ rfl _ _ 22 rfl 5 i0 (.int .u8 0) 1 1 Try.underlying22 hi0 hz0 hz1 hz2 rfl (by omega) (.slice (some ⟨w.heap.size, 0, none⟩) 0 0) 0 [] rfl hown (some ad) l.length c (byteVals l) rfl hx1 (byteVals_one l) (by simp only [maxLen]; omega) (by omega) ?_; intro v1 w1 hown1 hf1 hr1; rw [Nat.zero_add, List.nil_append] at hown1)
    go_ret
    refine ⟨v1, rfl, hown1, ((Fr.refl nob w).alloc _).then hf1 (fun k hk => .inr ?_), fun k hk => ?_⟩
    · have : w.heap.size = k := by simpa [rowOf, Value.ownBlock] using hk
      omega
    · rcases hr1 k hk with h | h
      · have : w.heap.size = k := by simpa [rowOf, Value.ownBlock] using h
        omega
      · simp at h; omega
/-- What stands while blocks are only added. -/
theorem sum_hold {w w' : World} {g : Nat} {s : St} {v : Value} {n : Nat} (hb : Blk w g 101 (sumCells s v n)) (h : Below w.heap.size w w') :
    Below w.heap.size w w' ∧ w'.cell? ⟨g, 0, none⟩ = some (.int .u32 (n32 s.a)) ∧ w'.cell? ⟨g, 1, none⟩ = some (.int .u32 (n32 s.b)) ∧ w'.cell? ⟨g, 2, none⟩ = some (.int .u32 (n32 s.c)) ∧ w'.cell? ⟨g, 3, none⟩ = some (.int .u32 (n32 s.d)) ∧
    w'.cell? ⟨g, 4, none⟩ = some (.int .u32 (n32 s.e)) ∧ w'.cell? ⟨g, 5, none⟩ = some (.int .u32 (n32 s.f)) ∧ w'.cell? ⟨g, 6, none⟩ = some (.int .u32 (n32 s.g)) ∧ w'.cell? ⟨g, 7, none⟩ = some (.int .u32 (n32 s.h)) ∧ w'.cell? ⟨g, 8, none⟩ = some v := by
  have hb' := hb.below h hb.lt
  exact ⟨h, hb'.cell 0, hb'.cell 1, hb'.cell 2, hb'.cell 3, hb'.cell 4, hb'.cell 5, hb'.cell 6, hb'.cell 7, hb'.cell 8⟩
set_option maxRecDepth 100000 in
set_option maxHeartbeats 1000000 in
theorem now_any (g : Nat) (m : List UInt8) (w : World) (hs : SumAt w g m) (hm : m.length ≤ 500000000) :
    Calls Try.prog 27 #[.pointer (some ⟨g, 0, none⟩)] w fun e w' => e = .returned (.agg (byteVals (sha m)).toArray) ∧ Below w.heap.size w w' := by
  obtain ⟨v, hb, hown⟩ := hs
  obtain ⟨i0, hi0, hz0, hz1, hz2⟩ := info_parts info5
  have hrl := restOf_lt m
  have hg := hb.lt
  obtain ⟨A, cap, rfl, hc1, hc2⟩ := hown.shape
  have hsrc : Bytes w A (restOf m) := Src.of_own hown
  have hA : A = none → (restOf m).length = 0 ∧ cap = 0 := by
    intro h
    rcases hown.2 with ⟨h1, h2⟩ | ⟨_, _, _, _, h1, _⟩
    · injection h1 with _ h3 h4; exact ⟨h2, h4⟩
    · injection h1 with h1; rw [h] at h1; cases h1
  go_enter Try.func27, Try.ntmps27
  go_wp2_with fail
  generalize hW0 : w.alloc _ = W0
  have hb0 : Blk W0 g 101 (sumCells (wordsOf m) (.slice A (restOf m).length cap) m.length) := by rw [← hW0]; exact hb.alloc _
  have hBel : Below w.heap.size w W0 := by rw [← hW0]; exact (Below.refl _ _).alloc (Nat.le_refl _) _
  have hs0 : w.heap.size < W0.heap.size := by rw [← hW0]; simp
  have hout : Blk W0 w.heap.size 25 (byteVals (List.replicate 32 0)).toArray := by rw [← hW0]; exact Blk.new _ _ _
  have hsrc0 : Bytes W0 A (restOf m) := by rw [← hW0]; exact hsrc.fr ((Fr.refl nob w).alloc _) (fun _ _ _ _ h => h)
  clear hW0
  have H0 := sum_hold hb0 (Below.refl _ _).drew
  go_cut [3] (fun s3 wx => ∃ (ge : Nat) (v : Value), s3 = .pointer (some ⟨ge, 0, none⟩) ∧ Below W0.heap.size W0 wx ∧ Blk wx ge 101 (sumCells (wordsOf m) v 0) ∧ Own wx 5 1 v ((restOf m).length + 1) (byteVals (restOf m ++ [128])) ∧ (∀ k, rowOf v k → W0.heap.size ≤ k) ∧ W0.heap.size ≤ ge)
  case first =>
    go_region_held3 (fun w' => Below W0.heap.size W0 w' ∧ w'.cell? ⟨g, 0, none⟩ = some (.int .u32 (n32 (wordsOf m).a)) ∧ w'.cell? ⟨g, 1, none⟩ = some (.int .u32 (n32 (wordsOf m).b)) ∧ w'.cell? ⟨g, 2, none⟩ = some (.int .u32 (n32 (wordsOf m).c)) ∧ w'.cell? ⟨g, 3, none⟩ = some (.int .u32 (n32 (wordsOf m).d)) ∧
    w'.cell? ⟨g, 4, none⟩ = some (.int .u32 (n32 (wordsOf m).e)) ∧ w'.cell? ⟨g, 5, none⟩ = some (.int .u32 (n32 (wordsOf m).f)) ∧ w'.cell? ⟨g, 6, none⟩ = some (.int .u32 (n32 (wordsOf m).g)) ∧ w'.cell? ⟨g, 7, none⟩ = some (.int .u32 (n32 (wordsOf m).h)) ∧ w'.cell? ⟨g, 8, none⟩ = some (.slice A (restOf m).length cap))
      (first
        | exact H0
        | exact sum_hold hb0 ((Below.refl _ _).drew.alloc (Nat.le_refl _) _)
        | exact sum_hold hb0 (hby.alloc hby.size _)
        | exact sum_hold hb0 hby
        | exact sum_hold hb0 (hbx.alloc hbx.size _)
        | exact sum_hold hb0 hbx)
      (first
        | (go_at_call 74
           refine (clone_any A _ cap (restOf m) _ rfl ?_ (by omega) hA).mono ?_
           · first
               | exact hsrc0.fr (Fr.refl nob _).drew (fun _ _ _ _ h => h)
               | exact hsrc0.fr ((Fr.refl nob _).drew.alloc _) (fun _ _ _ _ h => h)
           rintro e w1 ⟨v1, rfl, hown1, hf1, hr1⟩
           have hbx : Below W0.heap.size W0 w1 := by
             first
               | exact (Below.refl _ _).drew.trans hf1.below_nob
               | exact ((Below.refl _ _).drew.alloc (Nat.le_refl _) _).trans (hf1.below_nob.mono (by simp)))
        | (refine step_append_o _ (by rfl) (.tmp 19) (.tmp 20) 22 (by rfl) 5 i0 (.int .u8 0) 1 1 Try.underlying22 hi0 hz0 hz1 hz2 rfl (by omega) v1 (restOf m).length (byteVals (restOf m)) (by rfl) (hown1.fr ((Fr.refl nob _).alloc _) (fun _ h => h.elim)) (some ⟨w1.heap.size, 0, none⟩) 1 1 [v8 128] (by rfl) (Src.of_new w1 5 #[v8 128] 1 rfl) (by simp [v8, Value.oneCell']) (by simp only [maxLen]; omega) (by omega) ?_
           intro v2 w2 hown2 hf2 hr2
           obtain ⟨A2, cap2, rfl, hc3, hc4⟩ := hown2.shape
           have hby : Below W0.heap.size W0 w2 := (hbx.alloc hbx.size _).trans (hf2.below (by simp; have := hbx.size; omega) (fun k hk => by have := hr1 k hk; simp at this; omega)))
        | (refine step_append_o _ (by rfl) (.tmp 19) (.tmp 20) 22 (by rfl) 5 i0 (.int .u8 0) 1 1 Try.underlying22 hi0 hz0 hz1 hz2 rfl (by omega) v1 (restOf m).length (byteVals (restOf m)) (by rfl) hown1 (some ⟨W0.heap.size, 0, none⟩) 1 1 [v8 128] (by rfl) ((Src.of_new W0.drew 5 #[v8 128] 1 rfl).fr hf1 (fun _ _ _ _ h => h)) (by simp [v8, Value.oneCell']) (by simp only [maxLen]; omega) (by omega) ?_
           intro v2 w2 hown2 hf2 hr2
           obtain ⟨A2, cap2, rfl, hc3, hc4⟩ := hown2.shape
           have hby : Below W0.heap.size W0 w2 := hbx.trans (hf2.below hbx.size (fun k hk => by have := hr1 k hk; simp at this; omega)))
        | fail)
    all_goals
      go_wp2_with fail
      go_meet
      refine ⟨w2.heap.size, .slice A2 ((restOf m).length + 1) cap2, rfl, hby.alloc hby.size _, Blk.new w2 101 _, ?_, ?_, hby.size⟩
      · rw [byteVals_append]; exact hown2.fr ((Fr.refl nob w2).alloc _) (fun _ h => h.elim)
      · intro k hk
        rcases hr2 k hk with h | h
        · have := hr1 k h; (try simp at this); omega
        · have := hbx.size; (try simp at h); omega
  case rest =>
    obtain ⟨ge, v, rfl, cB, cb, cO, cR, cg⟩ := hcut
    obtain ⟨wc0, rfl⟩ : ∃ wc0 : World, wc0 = wc := ⟨_, rfl⟩
    have hz0' : zeros m.length < 64 := by unfold zeros; omega
    have hr64 : (restOf m).length = m.length % 64 := length_restOf m
    have hZ : ∀ j, j ≤ zeros m.length → (((restOf m).length + 1 + j) % 64 = 56 ↔ j = zeros m.length) := by
      intro j hj; unfold zeros at hj ⊢; rw [hr64]; omega
    obtain ⟨Z, HZ⟩ : ∃ Z, Hid (Z = zeros m.length) := ⟨_, rfl⟩
    rw [← HZ.out] at hZ hz0'
    have Hr64 := Lib.hid hr64
    obtain ⟨r, Hr⟩ : ∃ r, Hid (r = (restOf m).length) := ⟨_, rfl⟩
    rw [← Hr.out] at hZ cO hrl
    have HZ' := Lib.hid hZ
    clear hr64 hZ hb hown hc1 hc2 hsrc hA hsrc0 H0
    go_wp2_with fail
    go_loopw [24] (fun _ wr => ∃ (j N : Nat) (A2 : Option Addr) (cap2 : Nat), j ≤ Z ∧ Hid (N = r + 1 + j) ∧ Below W0.heap.size W0 wr ∧ Blk wr ge 101 (sumCells (wordsOf m) (.slice A2 N cap2) 0) ∧ Own wr 5 1 (.slice A2 N cap2) N (byteVals (restOf m ++ 128 :: List.replicate j 0)) ∧ (∀ k, rowOf (.slice A2 N cap2) k → W0.heap.size ≤ k)) (fun _ wr => r + 1 + Z - lenAt wr ge 8)
    case atStart =>
      obtain ⟨A2, cap2, rfl, _, _⟩ := cO.shape
      exact ⟨0, r + 1, A2, cap2, by omega, rfl, cB, cb, cO, cR⟩
    case round =>
      obtain ⟨j, N, A2, cap2, hj, HN, rB, rb, rO, rR⟩ := hrel
      have e8 : wr.cell? ⟨ge, 8, none⟩ = some (.slice A2 N cap2) := rb.cell 8
      have d8 := rb.frozen 8
      have hNb : N ≤ 200 := by rw [HN.out]; omega
      have Hlen := Lib.hid (lenAt_of e8)
      by_cases hjZ : j < Z
      · have hn56 : ((N : Int) % 64 != 56) = true := by
          have h := (HZ'.out j hj)
          have hN := HN.out
          rw [bne_iff_ne]; intro h2
          have : (r + 1 + j) % 64 = 56 := by omega
          have := h.1 this; omega
        have hrow : ∀ k, rowOf (.slice A2 N cap2) k → k < wr.heap.size := fun k hk => rO.lt hk
        go_wp2_with (at_builtin; refine wpList_append_o _ rfl (.tmp 35) (.tmp 36) 22 rfl 5 i0 (.int .u8 0) 1 1 Try.underlying22 hi0 hz0 hz1 hz2 rfl (by omega) (.slice A2 N cap2) N (byteVals (restOf m ++ 128 :: List.replicate j 0)) rfl (rO.fr ((Fr.refl nob _).alloc _) (fun _ h => h.elim)) (some ⟨wr.heap.size, 0, none⟩) 1 1 [v8 0] rfl (Src.of_new wr 5 #[v8 0] 1 rfl) (by simp [v8, Value.oneCell']) (by simp only [maxLen]; omega) (by omega) ?_
                     intro v3 w3 hown3 hf3 hr3
                     obtain ⟨A3, cap3, rfl, hc5, hc6⟩ := hown3.shape
                     have hb3 := (rb.alloc (.cells #[v8 0] 5)).fr hf3 (rO.blk_ne rb (by decide))
                     have e83 : w3.cell? ⟨ge, 8, none⟩ = some (.slice A2 N cap2) := hb3.cell 8
                     have d83 := hb3.frozen 8)
        have hb4 := hb3.set_ 8 (.slice A3 (N + 1) cap3)
        go_roundw
        case rel =>
          refine ⟨j + 1, N + 1, A3, cap3, by omega, by show _ = _; have := HN.out; omega, ?_, hb4, ?_, ?_⟩
          · exact ((rB.alloc rB.size _).trans (hf3.below (by simp; have := rB.size; omega) rR)).setCell cg _
          · have e : byteVals (restOf m ++ 128 :: List.replicate (j + 1) 0) = byteVals (restOf m ++ 128 :: List.replicate j 0) ++ [v8 0] := by
              rw [List.replicate_succ']; simp [byteVals]
            rw [e]
            exact hown3.fr ((Fr.refl (one ge) _).setCell' (.inl rfl) _) (fun k hk => by cases hk; exact hown3.blk_ne hb3 (by decide))
          · intro k hk
            rcases hr3 k hk with h | h
            · exact rR k h
            · have := rB.size; simp at h; omega
        case measure =>
          rw [Hlen.out, lenAt_of (A := A3) (n := N + 1) (c := cap3)]
          · have := HN.out; omega
          · exact hb4.cell 8
      · obtain rfl : j = Z := by omega
        have hn56 : ((N : Int) % 64 != 56) = false := by
          have h := (HZ'.out j hj).2 rfl
          have hN := HN.out
          rw [bne_eq_false_iff_eq]; omega
        have c9 : wr.cell? ⟨g, 9, none⟩ = some (.int .i64 (m.length : Int)) := (hb0.below rB hb0.lt).cell 9
        go_wp2_with fail
        obtain ⟨wb, rfl⟩ : ∃ wb : World, wb = wr := ⟨_, rfl⟩
        obtain ⟨P, HP⟩ : ∃ P : List UInt8, Hid (P = restOf m ++ 128 :: List.replicate j 0) := ⟨_, Lib.hid rfl⟩
        rw [← HP.out] at rO
        clear c9 e8 d8 hn56 HZ' hjZ hj Hlen cO cb cB
        go_loopw [46] (fun c wr => ∃ (i N2 : Nat) (A3 : Option Addr) (cap3 : Nat), i ≤ 8 ∧ c = .int .i64 i ∧ Hid (N2 = N + i) ∧ Below W0.heap.size W0 wr ∧ Blk wr ge 101 (sumCells (wordsOf m) (.slice A3 N2 cap3) 0) ∧ Own wr 5 1 (.slice A3 N2 cap3) N2 (byteVals (P ++ (List.range i).map (be8 (8 * m.length)))) ∧ (∀ k, rowOf (.slice A3 N2 cap3) k → W0.heap.size ≤ k)) (fun c _ => 8 - (intOf c).toNat)
        case atStart => exact ⟨0, N, A2, cap2, by omega, rfl, rfl, rB, rb, by simpa using rO, rR⟩
        case round =>
          obtain ⟨i, N2, A3, cap3, hi, rfl, HN2, qB, qb, qO, qR⟩ := hrel
          have e8 : wr.cell? ⟨ge, 8, none⟩ = some (.slice A3 N2 cap3) := qb.cell 8
          have d8 := qb.frozen 8
          have hNb2 : N2 ≤ 300 := by rw [HN2.out]; omega
          by_cases hi8 : i < 8
          · have t1 := qb.lt
            have hne : ¬ rowOf (.slice A3 N2 cap3) ge := qO.blk_ne qb (by decide)
            have hbe : ((m.length : Int) * 8 / 2 ^ (56 - 8 * i) % 256) = n8 (be8 (8 * m.length) i) := by
              unfold n8 be8
              rw [UInt8.toNat_ofNat']
              simp [Nat.mul_comm]
            go_wp2_with fail
            refine wp_region_late (rowOf (.slice A3 N2 cap3)) 11 2 2 (by kernel_rfl) (by kernel_rfl) rfl ?_
            simp only [List.take_succ_cons, List.take_zero, List.drop_succ_cons, List.drop_zero]
            repeat (go_big_quiet_step (fail))
            refine wpQuiet_nil ?_
            refine wpKeep_step rfl (fun K hK => ?_)
            go_simp
            have hO1 : Own (wr.alloc (.cells #[v8 (be8 (8 * m.length) i)] 5)).drew 5 1 (.slice A3 N2 cap3) N2 (byteVals (P ++ List.map (be8 (8 * m.length)) (List.range i))) := qO.fr (((Fr.refl nob _).alloc _).drew) (fun _ h => h.elim)
            have hS1 : Src (wr.alloc (.cells #[v8 (be8 (8 * m.length) i)] 5)).drew 1 (some ⟨wr.heap.size, 0, none⟩) 1 [v8 (be8 (8 * m.length) i)] := (Src.of_new wr 5 #[v8 (be8 (8 * m.length) i)] 1 rfl).fr (Fr.refl nob _).drew (fun _ _ _ _ h => h)
            refine hK _ _ ((Fr.refl _ _).alloc _).drew ?_
            refine wpKeep_step rfl (fun K2 hK2 => ?_)
            refine wp_append_o _ (.tmp 53) (.tmp 60) 22 rfl 5 i0 (.int .u8 0) 1 1 Try.underlying22 hi0 hz0 hz1 hz2 rfl (by omega) (.slice A3 N2 cap3) N2 _ rfl hO1 (some ⟨wr.heap.size, 0, none⟩) 1 1 _ rfl hS1 (by simp [v8, Value.oneCell']) (by simp only [maxLen]; omega) (by omega) ?_
            intro v3 w3 hown3 hf3 hr3
            obtain ⟨A4, cap4, rfl, hc5, hc6⟩ := hown3.shape
            have hF3 : Fr (rowOf (.slice A3 N2 cap3)) wr w3 := ((Fr.refl _ _).alloc _).drew.trans hf3
            have hb3 := qb.fr hF3 hne
            have e83 : w3.cell? ⟨ge, 8, none⟩ = some (.slice A3 N2 cap3) := hb3.cell 8
            have d83 := hb3.frozen 8
            have hb4 := hb3.set_ 8 (.slice A4 (N2 + 1) cap4)
            refine hK2 _ _ hF3 ?_
            refine wpKeep_nil ?_
            clear hK hK2
            go_wp2_with fail
            refine NoPan.normal ?_
            go_wp2_with fail
            go_roundw
            case rel =>
              refine ⟨i + 1, N2 + 1, A4, cap4, by omega, by go_num, by show _ = _; have := HN2.out; omega, ?_, hb4, ?_, ?_⟩
              · exact (qB.trans (hF3.below qB.size qR)).setCell cg _
              · have e : byteVals (P ++ List.map (be8 (8 * m.length)) (List.range (i + 1))) = byteVals (P ++ List.map (be8 (8 * m.length)) (List.range i)) ++ [v8 (be8 (8 * m.length) i)] := by
                  rw [List.range_succ]; simp [byteVals]
                rw [e]
                exact hown3.fr ((Fr.refl (one ge) _).setCell' (.inl rfl) _) (fun k hk => by cases hk; exact hown3.blk_ne hb3 (by decide))
              · intro k hk
                rcases hr3 k hk with h | h
                · exact qR k h
                · have := qB.size; simp at h; omega
            case measure => simp [intOf]; omega
          · obtain rfl : i = 8 := by omega
            obtain ⟨X, HX⟩ : ∃ X : List UInt8, Hid (X = P ++ List.map (be8 (8 * m.length)) (List.range 8)) := ⟨_, Lib.hid rfl⟩
            rw [← HX.out] at qO
            have hlX : X.length = N2 := by
              have h := qO.1; simpa [byteVals] using h
            rw [← hlX] at qO qb hNb2
            have hK := add_nil ge (wordsOf m) _ X 0 wr qb qO (by omega) (by omega)
            have hXw : absorb (X.length / 64) (wordsOf m) X = wordsOf (pad m) := by
              have h := words_add m (128 :: (List.replicate (zeros m.length) 0 ++ lenBytes (8 * m.length)))
              have e : restOf m ++ 128 :: (List.replicate (zeros m.length) 0 ++ lenBytes (8 * m.length)) = X := by
                rw [HX.out, HP.out, ← HZ.out]; simp [lenBytes]
              rw [e] at h
              exact h
            rw [hXw] at hK
            have hqs : ∀ k, sumSet wr ge k → W0.heap.size ≤ k := by
              rintro k (rfl | ⟨u, hu, hk⟩)
              · exact cg
              · have hu' : u = .slice A3 X.length cap3 := Option.some.inj (hu.symm.trans (qb.cell 8))
                subst hu'
                rw [hlX] at hk
                exact qR k hk
            have HK := Lib.hid hK
            have Hqs := Lib.hid hqs
            clear hK hXw hqs hlX
            go_wp2_with (go_at_call 26; refine HK.out.mono ?_; rintro e w5 ⟨rfl, v5, hB5, hF5⟩)
            have hgo : Blk (w5.alloc (.cells (byteVals (List.replicate 32 0)).toArray 25)) w5.heap.size 25 (byteVals (List.replicate 32 0)).toArray := Blk.new _ _ _
            have hge : Blk (w5.alloc (.cells (byteVals (List.replicate 32 0)).toArray 25)) ge 101 (sumCells (wordsOf (pad m)) v5 0) := hB5.alloc _
            have hbb : Below W0.heap.size W0 (w5.alloc (.cells (byteVals (List.replicate 32 0)).toArray 25)) := by
              have h1 := qB.trans (hF5.below qB.size Hqs.out)
              exact h1.alloc h1.size _
            have hgg : ge < w5.heap.size := hB5.lt
            have hg5 : W0.heap.size ≤ w5.heap.size := Nat.le_trans qB.size hF5.size
            obtain ⟨go, hgo'⟩ : ∃ go, go = w5.heap.size := ⟨_, rfl⟩
            rw [← hgo'] at hgo hgg hg5 ⊢
            clear hgo' qb qO e8 d8 hF5 HK hB5
            obtain ⟨wd, rfl⟩ : ∃ wd : World, wd = wr := ⟨_, rfl⟩
            obtain ⟨S, HS⟩ : ∃ S : St, Hid (S = wordsOf (pad m)) := ⟨_, Lib.hid rfl⟩
            rw [← HS.out] at hge
            go_loopw [67] (fun c wr => ∃ i : Nat, i ≤ 32 ∧ c = .int .i64 i ∧ Below W0.heap.size W0 wr ∧ Blk wr ge 101 (sumCells S v5 0) ∧ Blk wr go 25 (byteVals (List.map (outByte S) (List.range i) ++ List.replicate (32 - i) 0)).toArray) (fun c _ => 32 - (intOf c).toNat)
            case atStart => exact ⟨0, by omega, rfl, hbb, hge, hgo⟩
            case round =>
              obtain ⟨i, hi, rfl, sB, sg, so⟩ := hrel
              by_cases hi32 : i < 32
              · have c1 : wr.cell? ⟨ge, i / 4, none⟩ = some (.int .u32 (n32 (S.list.getD (i / 4) 0))) := by
                  rw [sg.cell]
                  have h8 : i / 4 < 8 := by omega
                  generalize i / 4 = q at h8
                  match q, h8 with
                  | 0, _ | 1, _ | 2, _ | 3, _ | 4, _ | 5, _ | 6, _ | 7, _ => rfl
                obtain ⟨x, hx⟩ : ∃ x, x = S.list.getD (i / 4) 0 := ⟨_, rfl⟩
                rw [← hx] at c1
                have Hx := Lib.hid hx
                clear hx
                have hsv := shr_val x (24 - 8 * (i % 4))
                have c2 : wr.cell? ⟨go, i, none⟩ = some (.int .u8 0) := by
                  rw [so.cell]; simp [byteVals, v8, n8, List.getElem?_append, List.getElem?_replicate]; omega
                have d2 := so.frozen i
                go_wp2_with fail
                go_roundw
                case rel =>
                  refine ⟨i + 1, by omega, by go_num, sB.setCell (by show W0.heap.size ≤ go; omega) _, sg.far' (by omega) _, ?_⟩
                  have h := so.set_ i (v8 (outByte S i))
                  have e1 : (shr x (24 - 8 * (i % 4))).toUInt8 = outByte S i := by rw [Hx.out]; rfl
                  have e2 : (List.map v8 (List.map (outByte S) (List.range i) ++ List.replicate (32 - i) 0)).set i (v8 (outByte S i)) = List.map v8 (List.map (outByte S) (List.range (i + 1)) ++ List.replicate (32 - (i + 1)) 0) := by
                    rw [← List.map_set]
                    congr 1
                    rw [List.set_append_right _ _ (by simp), List.range_succ, List.map_append, List.append_assoc]
                    congr 1
                    simp only [List.length_map, List.length_range, Nat.sub_self, List.map_cons, List.map_nil, List.singleton_append]
                    rw [show 32 - i = (32 - (i + 1)) + 1 by omega, List.replicate_succ, List.set_cons_zero]
                  rw [e1]
                  simp only [byteVals, List.setIfInBounds_toArray, e2] at h
                  exact h
                case measure => simp [intOf]; omega
              · obtain rfl : i = 32 := by omega
                have hfin : List.map (outByte S) (List.range 32) ++ List.replicate (32 - 32) 0 = sha m := by
                  rw [sha_words, ← HS.out]; simp [out]
                rw [hfin] at so
                have so2 : Blk wr w.heap.size 25 (byteVals (List.replicate 32 0)).toArray := hout.below sB hs0
                have hsz : (byteVals (sha m)).toArray.size = 32 := by simp [byteVals, length_sha]
                have hi25 : (Try.prog.info? 25).map (·.size) = some (byteVals (sha m)).toArray.size := by rw [hsz]; kernel_rfl
                have h1c : (byteVals (sha m)).toArray.all (·.oneCell') = true := all_oneCell_toArray (byteVals_one _)
                have Hi25 := Lib.hid hi25
                have Hsz := Lib.hid hsz
                have H1c := Lib.hid h1c
                clear hfin hi25 hsz h1c
                go_wp2_with (first
                  | (refine wpList_load_blk rfl 25 (.tmp 6) rfl go 25 (byteVals (sha m)).toArray _ rfl so Try.underlying25 rfl Hi25.out ?_)
                  | (refine wpList_store_blk rfl 25 (.tmp 2) (.tmp 86) rfl w.heap.size 25 (byteVals (List.replicate 32 0)).toArray (byteVals (sha m)).toArray rfl rfl so2 (by rw [Hsz.out]; rfl) Hi25.out H1c.out ?_; intro w8 hb8 hf8))
                exact bodyPost_ret (v := .agg (byteVals (sha m)).toArray) (by
                  refine results_cell_row (cs := (byteVals (sha m)).toArray) rfl _ _ w.heap.size 25 (0, 0) _ rfl hb8 Try.underlying25 rfl Hi25.out) rfl
                  ⟨rfl, (hBel.trans (sB.mono (Nat.le_of_lt hs0))).trans (hf8.below (by have := sB.size; omega) (fun k hk => by cases hk; exact Nat.le_refl _))⟩
end Go.Proofs.Ytnlkjhhocehhaaa
