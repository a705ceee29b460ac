/- The law SealChain: the chain of parts is what the document says; one part more is the seal of it, with the chain so far ahead. For every input. -/
import Derived.Test.YtnlkjhhocehhaaaRefChain
import Derived.Test.YtnlkjhhocehhaaaEq25
import Derived.Test.YtnlkjhhocehhaaaGrow2
import Derived.Lib.SlBytesConst
namespace Go.Proofs.Ytnlkjhhocehhaaa
open Go Go.RowKit Go.Proofs
set_option linter.unusedVariables false
theorem info22 : (Try.prog.info? 22).map (fun i => (i.zero, i.size, i.bytes)) = some (some (.slice none 0 0), 1, 24) := by kernel_rfl
theorem info_slice {P : Program} {t : TypeId} {z : Value} {b : Nat} (h : (P.info? t).map (fun i => (i.zero, i.size, i.bytes)) = some (some z, 1, b)) : ∃ i, P.info? t = some i ∧ i.zero = some z ∧ i.size = 1 ∧ i.bytes = b := by
  cases hq : P.info? t with
  | none => simp [hq] at h
  | some i => simp [hq] at h; exact ⟨i, rfl, h.1, h.2.1, h.2.2⟩
/-- Parts, as a list of slices. -/
def PartsV (w : World) (vs : List Value) (ls : List (List UInt8)) : Prop := vs.length = ls.length ∧ ∀ j, j < ls.length → PartAt w (vs.getD j undef) (ls.getD j [])
theorem PartsV.nil (w : World) : PartsV w [] [] := ⟨rfl, fun j hj => absurd hj (by simp)⟩
theorem PartsV.snoc {w : World} {vs : List Value} {ls : List (List UInt8)} {v : Value} {l : List UInt8} (h : PartsV w vs ls) (hv : PartAt w v l) : PartsV w (vs ++ [v]) (ls ++ [l]) := by
  refine ⟨by simp [h.1], fun j hj => ?_⟩
  rw [List.length_append] at hj
  by_cases hj' : j < ls.length
  · have := h.2 j hj'
    rw [List.getD_eq_getElem?_getD, List.getElem?_append_left (by rw [h.1]; exact hj'), ← List.getD_eq_getElem?_getD, List.getD_eq_getElem?_getD (l := ls ++ [l]), List.getElem?_append_left hj', ← List.getD_eq_getElem?_getD]
    exact this
  · have e : j = ls.length := by simp at hj; omega
    subst e
    rw [List.getD_eq_getElem?_getD, List.getElem?_append_right (by rw [h.1]; exact Nat.le_refl _), List.getD_eq_getElem?_getD (l := ls ++ [l]), List.getElem?_append_right (Nat.le_refl _), h.1, Nat.sub_self]
    simpa using hv
theorem PartsV.keep {w w' : World} {vs : List Value} {ls : List (List UInt8)} (h : PartsV w vs ls) (hb : Below w.heap.size w w') : PartsV w' vs ls := ⟨h.1, fun j hj => (h.2 j hj).keep hb⟩
theorem parts_own {W : World} {A : Option Addr} {n c : Nat} {vs : List Value} {ls : List (List UInt8)} (ho : Own W 22 1 (.slice A n c) n vs) (hn : n = ls.length) (h : PartsV W vs ls) : Parts W A ls := fun h0 => by
  obtain ⟨g, o, cap, hv, hg, _, hc⟩ := ho.cells (by omega)
  injection hv with hA
  subst hA
  refine ⟨g, o, rfl, hg, fun i hi => ⟨vs.getD i undef, hc i _ ?_, h.2 i hi⟩⟩
  simp [show i < vs.length by rw [h.1]; exact hi]
theorem own22_ne {w : World} {v : Value} {n : Nat} {xs : List Value} {g : Nat} {cs : Array Value} (h : Own w 22 1 v n xs) (hb : Blk w g 25 cs) : ¬ rowOf v g := h.blk_ne hb (by decide)
/-- As wp_region_grow, the bound said. -/
theorem wp_region_grow_at {P : Program} {id : Nat} {Q : Exit → Act → World → Prop} {a : Act} {w : World} {l : List Oper} (B T : Nat) (segs : List (List Nat × Nat)) (fin : List Nat)
    (hm : P.follows .mixedOrders = true) (hB : growB .any l.toArray T segs fin = true)
    (h : wpSegs P l.toArray T (NoPan Q) B segs fin a w.drew) : (Code.region id l.toArray true).wp P Q a w := by
  refine Code.wp_mono (Q := NoPan Q) NoPan.to ?_
  simp only [growB, Bool.and_eq_true, decide_eq_true_eq, Bool.or_eq_true] at hB
  obtain ⟨⟨⟨⟨⟨hsel, hT⟩, hst⟩, hft⟩, hlen⟩, hseg⟩ := hB
  have hst' : ∀ s ∈ segs, ∀ r ∈ s.1, r ≠ T := fun s hs r hr => by
    have h1 := List.all_eq_true.1 hst s hs
    have h2 := List.all_eq_true.1 h1 r hr
    simpa using h2
  have hft' : ∀ r ∈ fin, r ≠ T := fun r hr => by
    have h2 := List.all_eq_true.1 hft r hr
    simpa using h2
  refine wp_region_any hm (wpAny_of_B (T := T) _ B _ _ _ ?_)
  have := wpAnyB_of_segs (P := P) (Q' := NoPan Q) (md := .any) (T := T) hsel (fun _ _ _ _ _ h => h) (fun i listed hi hsz hcl hun hne => by
    rcases hT with hT | hT
    · intro hr
      obtain ⟨_, o, ho, _⟩ := mem_ready.1 hr
      have := (Array.getElem?_eq_some_iff.1 ho).1
      omega
    · exact sink_key hT (fun j hj => by simp at hj; simpa using hj.1) hsz hcl (by simp; exact ⟨by simpa using hi, hne⟩) hun)
    segs fin B (Array.replicate l.toArray.size false) a w.drew hst' hft' (by simp) (fun j oj _ hl => (by rw [getD_replicate_false] at hl; cases hl)) hseg h
  rw [hlen] at this
  exact this
end Go.Proofs.Ytnlkjhhocehhaaa
namespace Go.Proofs.Ytnlkjhhocehhaaa.sealChain
open Go Go.RowKit Go.Proofs Go.Proofs.Ytnlkjhhocehhaaa Sha
set_option linter.unusedVariables false
set_option maxRecDepth 100000 in
set_option maxHeartbeats 4000000 in
theorem walk (a0 : Option Addr) (len0 cap0 : Nat) (z0 : List Int) (a1 : Option Addr) (len1 cap1 : Nat) (ls : List (List UInt8)) (w : World) (w0 : IsRow .u8 w a0 len0 cap0 z0) (hl1 : len1 = ls.length) (hc1 : len1 ≤ cap1) (hm1 : cap1 ≤ maxLen) (hP : Parts w a1 ls) :
    Calls Try.prog 11 #[.slice a0 len0 cap0, .slice a1 len1 cap1] w fun e w' => e = .returned (.bool true) ∧ Below w.heap.size w w' := by
  obtain ⟨n, k, Hn, hn, hnc, hkl, hbk, hle0, hc0, -, HE0⟩ := early_arg w0
  clear w0
  obtain ⟨i0, hi0, hz0, hz1, hz2⟩ := info_parts info5
  obtain ⟨i2, hi2, hy0, hy1, hy2⟩ := info_slice info22
  have HL1 := Lib.hid hl1
  have HPP := Lib.hid hP
  clear hl1 hP
  go_enter Try.func11, Try.ntmps11
  go_wp2_with (first
    | (go_at_call 33
       refine (lives33 w).mono ?_
       rintro e w1 ⟨rfl, hb1⟩)
    | (go_at_call 34
       refine (HE0.out w1).mono ?_
       rintro e w1' ⟨rfl, rfl⟩)
    | fail)
  go_loopw [5, 6] (fun c5 c6 wr => ∃ (i : Nat) (vs : List Value), i ≤ len1 ∧ i ≤ 6 ∧ c6 = .int .i64 i ∧ Own wr 22 1 c5 i vs ∧ PartsV w vs ((ls.take i).map (·.take 80)) ∧ (∀ k, rowOf c5 k → w1.heap.size ≤ k) ∧ Below w1.heap.size w1 wr) (fun _ c6 _ => 6 - (intOf c6).toNat)
  case atStart => exact ⟨0, [], by omega, by omega, rfl, Own.nil _ _ _, PartsV.nil _, fun k hk => by (cases hk), Below.refl _ _⟩
  case round =>
    obtain ⟨i, vs, hi1, hi6, rfl, ho, hpv, hr, hB⟩ := hrel
    have hBw : Below w.heap.size w wr := hb1.trans (hB.mono hb1.size)
    by_cases hlt : i < len1 ∧ i < 6
    · obtain ⟨hl1, hl2⟩ := hlt
      have hd1 : decide ((i : Int) < (len1 : Int)) = true := decide_eq_true (by omega)
      have hd2 : decide ((i : Int) < 6) = true := decide_eq_true (by omega)
      obtain ⟨Bg, Bo, hBe, hBg, hBc⟩ := HPP.out (by have := HL1.out; omega)
      subst hBe
      obtain ⟨pv, hpc, hpa⟩ := hBc i (by have := HL1.out; omega)
      obtain ⟨p, hp⟩ : ∃ p, p = ls.getD i [] := ⟨_, rfl⟩
      rw [← hp] at hpa
      obtain ⟨PA, pc, hpvv, hp1, hp2, hpb⟩ := hpa
      subst hpvv
      obtain ⟨q, hq⟩ : ∃ q, q = p.length := ⟨_, rfl⟩
      rw [← hq] at hpc hp1
      obtain ⟨m, hm⟩ : ∃ m, m = min q 80 := ⟨_, rfl⟩
      have hmi : min (q : Int) 80 = (m : Int) := by omega
      have hmc : (m : Int) ≤ (pc : Int) := by omega
      have hm0 : (0 : Int) ≤ (m : Int) := by omega
      have hqx : (q : Int) ≤ 9223372036854775807 := by unfold maxLen at hp2; omega
      have hnew : PartAt w (.slice PA m pc) (p.take 80) := ⟨PA, pc, by congr 1; rw [List.length_take]; omega, by rw [List.length_take]; omega, hp2, hpb.take 80⟩
      have hls : (ls.take (i + 1)).map (·.take 80) = (ls.take i).map (·.take 80) ++ [p.take 80] := by
        rw [List.take_succ_eq_append_getElem (by have := HL1.out; omega), List.map_append, hp]; simp [show i < ls.length by have := HL1.out; omega]
      have HLS := Lib.hid hls
      have hcr : wr.cell? ⟨Bg, Bo + i, none⟩ = some (.slice PA q pc) := (hBw.cell (p := ⟨Bg, Bo + i, none⟩) hBg).trans hpc
      have hBgr : Bg < wr.heap.size := Nat.lt_of_lt_of_le hBg hBw.size
      have h0i : (0 : Int) ≤ (i : Int) := by omega
      have him : (i : Int) < (len1 : Int) := by omega
      obtain ⟨A5, c5', hv5, -, -⟩ := ho.shape
      subst hv5
      clear hq hm hp hls hBc hpc
      obtain ⟨wo, rfl⟩ : ∃ wo : World, wo = wr := ⟨_, rfl⟩
      go_wp2_with fail
      refine wp_region_grow_at w1.heap.size 15 [([0, 1, 2, 3, 4, 5, 6, 7, 8, 9, 10, 11], 12), ([], 13)] [14] (by kernel_rfl) (by kernel_rfl) ?_
      have hpcA : wo.drew.cell? ⟨Bg, Bo + i, none⟩ = some (.slice PA q pc) := hcr
      obtain ⟨Bd, hBd⟩ : ∃ Bd, Bd = wo.heap.size := ⟨_, rfl⟩
      have hAB : wo.drew.heap.size = Bd := hBd.symm
      have hBgB : Bg < Bd := by rw [hBd]; exact hBgr
      have hBgw : Bg < w1.heap.size := Nat.lt_of_lt_of_le hBg hb1.size
      have hoA : Own wo.drew 22 1 (.slice A5 i c5') i vs := ho.fr (Fr.refl nob wo).drew (fun _ h => h.elim)
      have hBA : Below w1.heap.size w1 wo.drew := hB.trans ((Below.refl wo.heap.size wo).drew.mono hB.size)
      obtain ⟨wA, hwA⟩ : ∃ wA, wA = wo.drew := ⟨_, rfl⟩
      rw [← hwA] at hpcA hAB hoA hBA ⊢
      have hBgA : Bg < wA.heap.size := by rw [hAB]; exact hBgB
      clear hwA hBd hcr hBgr
      refine wpSegs_cons rfl (List.getElem?_toArray ..) ?_
      simp only [pick, List.filterMap_cons, List.filterMap_nil, List.getElem?_toArray, List.getElem?_cons_succ, List.getElem?_cons_zero]
      show wpQuiet _ _ _ _ [_, _, _, _, _, _, _, _, _, _, _, _] _
      repeat (go_big_quiet_step (fail))
      refine wpQuiet_nil ?_
      rw [if_pos (by rfl)]
      intro K hK
      go_simp
      have hoB : Own (wA.alloc (.cells #[.slice PA m pc] 22)) 22 1 (.slice A5 i c5') i vs := hoA.fr ((Fr.refl nob _).alloc _) (fun _ h => h.elim)
      have hsB : Src (wA.alloc (.cells #[.slice PA m pc] 22)) 1 (some ⟨Bd, 0, none⟩) 1 [.slice PA m pc] := by rw [← hAB]; exact Src.of_new wA 22 #[.slice PA m pc] 1 rfl
      have hFB : Fr nob wA (wA.alloc (.cells #[.slice PA m pc] 22)) := (Fr.refl nob _).alloc _
      have hBB : Below w1.heap.size w1 (wA.alloc (.cells #[.slice PA m pc] 22)) := hBA.alloc hBA.size _
      have hsz : (wA.alloc (.cells #[.slice PA m pc] 22)).heap.size = Bd + 1 := by simp [hAB]
      obtain ⟨wB, hwB⟩ : ∃ wB, wB = wA.alloc (.cells #[.slice PA m pc] 22) := ⟨_, rfl⟩
      rw [← hwB] at hoB hsB hFB hBB hsz ⊢
      clear hwB hoA
      refine hK w1.heap.size _ _ (Nat.le_refl _) (fun _ => hFB.mono (fun _ _ h => h.elim)) ?_
      clear hK K
      try simp only [Act.put, List.setIfInBounds_toArray, List.set_cons_zero, List.set_cons_succ]
      refine wpSegs_cons rfl (List.getElem?_toArray ..) ?_
      simp only [pick, List.filterMap_cons, List.filterMap_nil, List.getElem?_toArray, List.getElem?_cons_succ, List.getElem?_cons_zero]
      refine wpQuiet_nil ?_
      rw [if_pos (by rfl)]
      intro K hK
      refine wp_append_o _ (.tmp 23) (.tmp 35) 48 rfl 22 i2 (.slice none 0 0) 1 24 Try.underlying48 hi2 hy0 hy1 hy2 rfl (by omega) (.slice A5 i c5') i vs rfl hoB (some ⟨Bd, 0, none⟩) 1 1 [.slice PA m pc] rfl hsB (by simp [Value.oneCell']) (by simp only [maxLen]; omega) (by omega) ?_
      intro v6 w7 hown7 hf7 hr7
      have hF7 : Fr (geB w1.heap.size) wB w7 := hf7.mono (fun k _ hk => hr k hk)
      refine hK w1.heap.size _ _ (Nat.le_refl _) (fun _ => hF7) ?_
      clear hK K
      try simp only [Act.put, List.setIfInBounds_toArray, List.set_cons_zero, List.set_cons_succ]
      refine wpSegs_nil rfl ?_
      simp only [pick, List.filterMap_cons, List.filterMap_nil, List.getElem?_toArray, List.getElem?_cons_succ, List.getElem?_cons_zero]
      show wpQuiet _ _ _ _ [_] _
      repeat (go_big_quiet_step (fail))
      refine wpQuiet_nil ?_
      refine NoPan.normal ?_
      go_wp2_with fail
      go_roundw
      case rel => exact ⟨i + 1, vs ++ [.slice PA m pc], by omega, by omega, by go_num, hown7, by rw [HLS.out]; exact hpv.snoc hnew, fun k hk => (hr7 k hk).elim (hr k) (fun h => by have := hBB.size; omega), hBB.trans (hF7.below hBB.size (fun k hk => hk))⟩
      case measure => simp [intOf]; omega
    · obtain ⟨A5, c5', hv5, hca, hcb⟩ := ho.shape
      subst hv5
      obtain ⟨T, hT⟩ : ∃ T, T = (ls.take i).map (·.take 80) := ⟨_, rfl⟩
      have hTl : i = T.length := by rw [hT, List.length_map, List.length_take]; have := HL1.out; omega
      have hTs : ∀ l ∈ T, l.length ≤ 100000000 := by
        rw [hT]; intro l hl
        obtain ⟨l', _, rfl⟩ := List.mem_map.1 hl
        rw [List.length_take]; omega
      rw [← hT] at hpv
      have hPT : Parts wr A5 T := parts_own ho hTl (hpv.keep hBw)
      have HT := Lib.hid hTl
      have HVO : Hid (∀ u ∈ vs, u.oneCell' = true) := Lib.hid (fun u hu => by
        obtain ⟨j, hj, rfl⟩ := List.mem_iff_getElem.1 hu
        have h1 := hpv.2 j (by rw [← hpv.1]; exact hj)
        obtain ⟨A', c', e, _⟩ := h1
        rw [List.getD_eq_getElem?_getD, List.getElem?_eq_getElem hj] at e
        simp at e
        rw [e]; rfl)
      have HTs := Lib.hid hTs
      obtain ⟨D1, hD1⟩ : ∃ D, D = chainOf k T := ⟨_, rfl⟩
      have hl1 : D1.length = 32 := by rw [hD1]; exact length_chainOf _ _
      have HD1 := Lib.hid hD1
      have HL := Lib.hid hl1
      have C41 : Hid (∀ W, Below wr.heap.size wr W → Calls Try.prog 41 #[.slice a0 n cap0, .slice A5 i c5'] W fun e w' => e = .returned (.agg (byteVals D1).toArray) ∧ Below W.heap.size W w') :=
        Lib.hid (fun W hW => by rw [hD1]; exact chain_any k a0 n cap0 Hn.out (by omega) i T A5 c5' W hTl hca hcb (hPT.keep hW) hTs ((hbk.keep hBw).keep hW))
      have C42 : Hid (∀ W, Below wr.heap.size wr W → Calls Try.prog 42 #[.slice a0 n cap0, .slice A5 i c5'] W fun e w' => e = .returned (.agg (byteVals D1).toArray) ∧ Below W.heap.size W w') :=
        Lib.hid (fun W hW => by rw [hD1]; exact rchain_any k a0 n cap0 Hn.out (by omega) i T A5 c5' W hTl hca hcb (hPT.keep hW) hTs ((hbk.keep hBw).keep hW))
      have heq1 := fun W => eq25 D1 D1 hl1 hl1 W
      simp only [decide_true] at heq1
      obtain ⟨wo, rfl⟩ : ∃ wo : World, wo = wr := ⟨_, rfl⟩
      have hcase : (decide ((i : Int) < (len1 : Int)) = true ∧ decide ((i : Int) < 6) = false ∧ i < len1) ∨ (decide ((i : Int) < (len1 : Int)) = false ∧ ¬ i < len1 ∧ (len1 : Int) ≤ (i : Int)) := by
        by_cases h : i < len1
        · exact .inl ⟨decide_eq_true (by omega), decide_eq_false (by omega), h⟩
        · exact .inr ⟨decide_eq_false (by omega), h, by omega⟩
      clear hT hTl hTs hD1 hl1 hPT hlt
      rcases hcase with ⟨hdA, hdB, hnA⟩ | ⟨hdA, hnA, hdB⟩
      all_goals
        go_wp2_with (first
          | (go_at_call 41
             refine (C41.out _ (Below.refl _ _)).mono ?_
             rintro e w2 ⟨rfl, hb2⟩
             have hB2 : Below wo.heap.size wo w2 := hb2)
          | (with_reducible refine wpList_alloc_run rfl 25 rfl zeroOut alloc25 ?_)
          | (refine wpList_store_blk rfl 25 (.tmp 7) (.tmp 39) rfl w2.heap.size 25 zeroOut (byteVals D1).toArray rfl rfl (Blk.new w2 25 zeroOut) (zero_digV _ HL.out) (info_digV _ HL.out) (one_digV _) ?_
             intro w3 hb3 hf3
             simp only [Act.put, List.setIfInBounds_toArray, List.set_cons_zero, List.set_cons_succ])
          | fail)
        have hF3 : Fr nob w2 w3 := ((Fr.refl nob w2).alloc (.cells zeroOut 25)).then hf3 (fun i hi => Or.inr (by unfold one at hi; omega))
        have hB3 : Below wo.heap.size wo w3 := hB2.trans (hF3.below_nob.mono hB2.size)
        obtain ⟨g7, hg7⟩ : ∃ g, g = w2.heap.size := ⟨_, rfl⟩
        rw [← hg7] at hb3 ⊢
        have hg7lt := hb3.lt
        clear hg7 hF3 hf3
        refine wp_region_quiet_below (by kernel_rfl) (by kernel_rfl) ?_
        go_big_quiet_want
        refine quiet_load_blk 25 (.tmp 7) rfl g7 25 (byteVals D1).toArray _ rfl (Regrown.blk hb3) Try.underlying25 rfl (info_digV _ HL.out) ?_
        go_big_quiet_on
        simp only [Act.put, List.setIfInBounds_toArray, List.set_cons_zero, List.set_cons_succ]
        repeat (go_big_quiet_step ((go_at_call 42; with_reducible exact regrown_below (C42.out _ (hB3.trans ((below_regrown _ _ _).mono hB3.size))))))
        refine wpQuiet_nil ?_
        intro w4 hw4
        have hb4 := Re.below hw4
        have hB4 : Below wo.heap.size wo w4 := hB3.trans (hb4.mono hB3.size)
        have h74 := hb3.below hb4 hb3.lt
        clear hw4
        have ho4 : Own w4 22 1 (.slice A5 i c5') i vs := ho.fr (Fr.of_below hB4 nob) (fun _ h => h.elim)
        have hi6' : i ≤ 6 := hi6
        obtain ⟨D2, hD2⟩ : ∃ D, D = sealOf k (D1 ++ [120]) := ⟨_, rfl⟩
        have hl2 : D2.length = 32 := by rw [hD2]; exact length_seal _ _
        have HD2 := Lib.hid hD2
        have HL2 := Lib.hid hl2
        clear hD2 hl2 heq1
        go_wp2_with (first
          | simp only [hcv5]
          | (at_builtin
             first
             | (refine wpList_append_o _ rfl (.const (.slice none 0 0)) (.tmp 46) 48 rfl 22 i2 (.slice none 0 0) 1 24 Try.underlying48 hi2 hy0 hy1 hy2 rfl (by omega) (.slice none 0 0) 0 [] rfl (Own.nil _ _ _) A5 i c5' vs rfl (Src.of_own ho4) HVO.out (by simp only [maxLen]; omega) (by omega) ?_
                intro v1 w5 hown5 hf5 hr5
                rw [Nat.zero_add, List.nil_append] at hown5
                have hF5 : Fr nob w4 w5 := hf5.mono (fun k _ hk => by cases hk)
                have hB5 : Below wo.heap.size wo w5 := hB4.trans (hF5.below_nob.mono hB4.size)
                have h75 := h74.fr hF5 (fun h => h)
                have hcv5 := Go.Lib.run_convert_bytes_const (P := Try.prog) w5 22 5 #[.int .u8 120] 1 1 Try.underlying22 Try.underlying5
                have hr5' : ∀ k, rowOf v1 k → w4.heap.size ≤ k := fun k hk => (hr5 k hk).elim (fun h => by cases h) id
                have hpx : Bytes (w5.alloc (.cells #[.int .u8 120] 5 (1, 2))) (some ⟨w5.heap.size, 0, none⟩) [120] := bytes_marked [120] (1, 2)
                have hFy : Fr nob w5 ((w5.alloc (.cells #[.int .u8 120] 5 (1, 2))).alloc (.cells #[.slice (some ⟨w5.heap.size, 0, none⟩) 1 1] 22)) := ((Fr.refl nob w5).alloc _).alloc _
                have hpy := hpx.keep (((Below.refl (w5.alloc (.cells #[.int .u8 120] 5 (1, 2))).heap.size (w5.alloc (.cells #[.int .u8 120] 5 (1, 2)))).alloc (Nat.le_refl _) (.cells #[.slice (some ⟨w5.heap.size, 0, none⟩) 1 1] 22)))
                have hsy : Src ((w5.alloc (.cells #[.int .u8 120] 5 (1, 2))).alloc (.cells #[.slice (some ⟨w5.heap.size, 0, none⟩) 1 1] 22)) 1 (some ⟨w5.heap.size + 1, 0, none⟩) 1 [.slice (some ⟨w5.heap.size, 0, none⟩) 1 1] := by
                  have h := Src.of_new (w5.alloc (.cells #[.int .u8 120] 5 (1, 2))) 22 #[.slice (some ⟨w5.heap.size, 0, none⟩) 1 1] 1 rfl
                  have e : (w5.alloc (.cells #[.int .u8 120] 5 (1, 2))).heap.size = w5.heap.size + 1 := by simp
                  rw [e] at h; exact h
                have hoy := hown5.fr hFy (fun _ h => h.elim)
                have hBy : Below wo.heap.size wo ((w5.alloc (.cells #[.int .u8 120] 5 (1, 2))).alloc (.cells #[.slice (some ⟨w5.heap.size, 0, none⟩) 1 1] 22)) := hB5.trans (hFy.below_nob.mono hB5.size)
                have h7y := h75.fr hFy (fun h => h))
             | (refine wpList_append_o _ rfl (.tmp 47) (.tmp 50) 48 rfl 22 i2 (.slice none 0 0) 1 24 Try.underlying48 hi2 hy0 hy1 hy2 rfl (by omega) v1 i vs rfl hoy (some ⟨w5.heap.size + 1, 0, none⟩) 1 1 [.slice (some ⟨w5.heap.size, 0, none⟩) 1 1] rfl hsy (by simp [Value.oneCell']) (by simp only [maxLen]; omega) (by omega) ?_
                intro v2 w6 hown6 hf6 hr6
                obtain ⟨A6, c6', hv6, hc61, hc62⟩ := hown6.shape
                subst hv6
                have hB6 : Below wo.heap.size wo w6 := hBy.trans (hf6.below hBy.size (fun k hk => by have := hr5' k hk; have := hB4.size; omega))
                have h76 := h7y.fr hf6 (hoy.blk_ne h7y (by decide))
                have hp6 : Bytes w6 (some ⟨w5.heap.size, 0, none⟩) [120] := hpy.fr hf6 (fun g o _ he hk => by
                  cases he
                  have := hown5.lt hk
                  omega)
                have hpv6 : PartsV w6 (vs ++ [.slice (some ⟨w5.heap.size, 0, none⟩) 1 1]) (T ++ [[120]]) := (hpv.keep (hBw.trans (hB6.mono hBw.size))).snoc ⟨_, 1, rfl, Nat.le_refl _, by simp [maxLen], hp6⟩
                have hT6 : i + 1 = (T ++ [[120]]).length := by rw [List.length_append, ← HT.out]; rfl
                have hk6 := chain_any k a0 n cap0 Hn.out (by omega) (i + 1) (T ++ [[120]]) A6 c6' w6 hT6 hc61 hc62 (parts_own hown6 hT6 hpv6) (by
                  intro l hl
                  rcases List.mem_append.1 hl with h | h
                  · exact HTs.out l h
                  · simp at h; subst h; simp) (hbk.keep (hBw.trans (hB6.mono hBw.size)))
                rw [chainOf_snoc, ← HD1.out, ← HD2.out] at hk6
                have HK6 := Lib.hid hk6
                clear hk6 hT6))
          | (go_at_call 41
             refine HK6.out.mono ?_
             rintro e w7 ⟨rfl, hb7⟩
             have hB7 : Below wo.heap.size wo w7 := hB6.trans (hb7.mono hB6.size)
             have h77 := h76.below hb7 h76.lt)
          | (with_reducible refine wpList_alloc_run rfl 25 rfl zeroOut alloc25 ?_)
          | (refine wpList_store_blk rfl 25 (.tmp 8) (.tmp 52) rfl w7.heap.size 25 zeroOut (byteVals D2).toArray rfl rfl (Blk.new w7 25 zeroOut) (zero_digV _ HL2.out) (info_digV _ HL2.out) (one_digV _) ?_
             intro w8 hb8 hf8
             simp only [Act.put, List.setIfInBounds_toArray, List.set_cons_zero, List.set_cons_succ])
          | fail)
        -- LAST REGION
        have hF8 : Fr nob w7 w8 := ((Fr.refl nob w7).alloc (.cells zeroOut 25)).then hf8 (fun i hi => Or.inr (by unfold one at hi; omega))
        have hB8 : Below wo.heap.size wo w8.drew := (hB7.trans (hF8.below_nob.mono hB7.size)).trans ((Below.refl w8.heap.size w8).drew.mono (hB7.trans (hF8.below_nob.mono hB7.size)).size)
        have h78 : Blk w8.drew g7 25 (digV D1) := (h77.fr hF8 (fun h => h)).drew
        have h88 : Blk w8.drew w7.heap.size 25 (digV D2) := hb8.drew
        obtain ⟨g8, hg8⟩ : ∃ g, g = w7.heap.size := ⟨_, rfl⟩
        rw [← hg8] at h88 ⊢
        obtain ⟨D0, hD0⟩ : ∃ D, D = sealOf k [] := ⟨_, rfl⟩
        have hl0 : D0.length = 32 := by rw [hD0]; exact length_seal _ _
        have C0 : Hid (∀ W, Below wo.heap.size wo W → Calls Try.prog 41 #[.slice a0 n cap0, .slice none 0 0] W fun e w' => e = .returned (.agg (byteVals D0).toArray) ∧ Below W.heap.size W w') :=
          Lib.hid (fun W hW => by rw [hD0]; exact chain_any k a0 n cap0 Hn.out (by omega) 0 [] none 0 W rfl (Nat.le_refl _) (by simp [maxLen]) (fun h => absurd h (by simp)) (fun l hl => absurd hl (by simp)) (hbk.keep (hBw.trans (hW.mono hBw.size))))
        have S0 : Hid (∀ W, Below wo.heap.size wo W → Calls Try.prog 35 #[.slice a0 n cap0, .slice none 0 0] W fun e w' => e = .returned (.agg (byteVals D0).toArray) ∧ Below W.heap.size W w') :=
          Lib.hid (fun W hW => by rw [hD0]; exact seal_any k [] a0 none n cap0 0 0 W Hn.out rfl (hbk.keep (hBw.trans (hW.mono hBw.size))) (Bytes.nil _ _) (by omega) (by simp))
        have heq2 := fun W => eq25 D2 D2 HL2.out HL2.out W
        have heq0 := fun W => eq25 D0 D0 hl0 hl0 W
        simp only [decide_true] at heq2 heq0
        clear hg8 hD0 hl0 hcv5 hpx hFy hpy hsy hoy hBy h7y h76 h77 hb8 hf8 hF8 hB7 hb7
        refine wp_region_fork w8.heap.size 16 [0, 1, 2] 3 [([], 4), ([], 5), ([], 6), ([7, 8, 9, 11], 10), ([], 12)] [13, 14, 15] 4 [([], 3), ([], 5), ([], 6), ([7, 8, 9, 11], 10), ([], 12)] [13, 14, 15] (by kernel_rfl) (by kernel_rfl) _ _ _ rfl (List.getElem?_toArray ..) (List.getElem?_toArray ..) rfl rfl ?_
        obtain ⟨Bd, hBd⟩ : ∃ Bd, Bd = w8.heap.size := ⟨_, rfl⟩
        have hAB : w8.drew.heap.size = Bd := hBd.symm
        rw [← hBd]
        obtain ⟨wA, hwA⟩ : ∃ wA, wA = w8.drew := ⟨_, rfl⟩
        rw [← hwA] at hB8 h78 h88 hAB ⊢
        clear hBd hwA
        have hl7 : g7 < Bd := by have := h78.lt; omega
        have hl8 : g8 < Bd := by have := h88.lt; omega
        simp only [pick, List.filterMap_cons, List.filterMap_nil, List.getElem?_toArray, List.getElem?_cons_succ, List.getElem?_cons_zero]
        show wpQuiet _ _ _ _ [_, _, _] _
        go_big_quiet_want
        refine quiet_load_blk 25 (.tmp 8) rfl g8 25 (byteVals D2).toArray _ rfl (Kept.blk h88 hl8) Try.underlying25 rfl (info_digV _ HL2.out) ?_
        go_big_quiet_on
        simp only [Act.put, List.setIfInBounds_toArray, List.set_cons_zero, List.set_cons_succ]
        repeat (go_big_quiet_step (fail))
        refine wpQuiet_nil ?_
        refine ⟨fun K hK => ?_, fun K hK => ?_⟩
        focus
          refine wp_append_o _ (.const (.slice none 0 0)) (.tmp 55) 22 rfl 5 i0 (.int .u8 0) 1 1 Try.underlying22 hi0 hz0 hz1 hz2 rfl (by omega) (.slice none 0 0) 0 [] rfl (Own.nil _ _ _) (some ⟨g7, 0, none⟩) 32 32 (byteVals D1) rfl (by have := bytes_digV h78; unfold Bytes at this; rwa [HL.out] at this) (byteVals_one _) (by simp only [maxLen]; omega) (by omega) ?_
          intro v9 wB hown9 hf9 hr9
          rw [Nat.zero_add, List.nil_append] at hown9
          have hF9 : Fr nob wA wB := hf9.mono (fun k _ hk => by cases hk)
          have hBB : Below wo.heap.size wo wB := hB8.trans (hF9.below_nob.mono hB8.size)
          have hr9' : ∀ k, rowOf v9 k → wA.heap.size ≤ k := fun k hk => (hr9 k hk).elim (fun h => by cases h) id
          refine hK Bd _ _ (Nat.le_refl _) (fun _ => hF9.mono (fun _ _ h => h.elim)) ?_
          clear hK K
          try simp only [Act.put, List.setIfInBounds_toArray, List.set_cons_zero, List.set_cons_succ]
          refine wpSegs_cons rfl (List.getElem?_toArray ..) ?_
          simp only [pick, List.filterMap_cons, List.filterMap_nil, List.getElem?_toArray, List.getElem?_cons_succ, List.getElem?_cons_zero]
          refine wpQuiet_nil ?_
          rw [if_pos (by rfl)]
          intro K hK
          go_simp
          have hownC : Own (wB.alloc (.cells #[.int .u8 120] 5)) 5 1 v9 32 (byteVals D1) := hown9.fr ((Fr.refl nob _).alloc _) (fun _ h => h.elim)
          have hsC : Src (wB.alloc (.cells #[.int .u8 120] 5)) 1 (some ⟨wB.heap.size, 0, none⟩) 1 [.int .u8 120] := Src.of_new wB 5 #[.int .u8 120] 1 rfl
          have hFC : Fr nob wB (wB.alloc (.cells #[.int .u8 120] 5)) := (Fr.refl nob _).alloc _
          have hBC : Below wo.heap.size wo (wB.alloc (.cells #[.int .u8 120] 5)) := hBB.trans (hFC.below_nob.mono hBB.size)
          obtain ⟨gx, hgx⟩ : ∃ gx, gx = wB.heap.size := ⟨_, rfl⟩
          rw [← hgx] at hsC ⊢
          obtain ⟨wC, hwC⟩ : ∃ wC, wC = wB.alloc (.cells #[.int .u8 120] 5) := ⟨_, rfl⟩
          rw [← hwC] at hownC hsC hFC hBC ⊢
          clear hgx hwC
          refine hK Bd _ _ (Nat.le_refl _) (fun _ => hFC.mono (fun _ _ h => h.elim)) ?_
          clear hK K
          try simp only [Act.put, List.setIfInBounds_toArray, List.set_cons_zero, List.set_cons_succ]
          refine wpSegs_cons rfl (List.getElem?_toArray ..) ?_
          simp only [pick, List.filterMap_cons, List.filterMap_nil, List.getElem?_toArray, List.getElem?_cons_succ, List.getElem?_cons_zero]
          refine wpQuiet_nil ?_
          rw [if_pos (by rfl)]
          intro K hK
          refine wp_append_o _ (.tmp 56) (.tmp 57) 22 rfl 5 i0 (.int .u8 0) 1 1 Try.underlying22 hi0 hz0 hz1 hz2 rfl (by omega) v9 32 (byteVals D1) rfl hownC (some ⟨gx, 0, none⟩) 1 1 [.int .u8 120] rfl hsC (by simp [Value.oneCell']) (by simp only [maxLen]; omega) (by omega) ?_
          intro v10 wE hown10 hf10 hr10
          obtain ⟨A10, c10', hv10, -, -⟩ := hown10.shape
          subst hv10
          have hFE : Fr (geB Bd) wC wE := hf10.mono (fun k _ hk => by have := hr9' k hk; unfold geB; omega)
          have hBE : Below wo.heap.size wo wE := hBC.trans (hFE.below hBC.size (fun k hk => by unfold geB at hk; have := hB8.size; omega))
          have hyE : Bytes wE A10 (D1 ++ [120]) := by
            have h := Src.of_own hown10
            have e : (D1 ++ [120]).length = 32 + 1 := by rw [List.length_append, HL.out]; rfl
            unfold Bytes
            rw [e, byteVals_append]; exact h
          have hkE := seal_any k (D1 ++ [120]) a0 A10 n cap0 (32 + 1) c10' wE Hn.out (by rw [List.length_append, HL.out]; rfl) (hbk.keep (hBw.trans (hBE.mono hBw.size))) hyE (by omega) (by rw [List.length_append, HL.out]; simp)
          rw [← HD2.out] at hkE
          have HKE := Lib.hid hkE
          clear hkE
          refine hK Bd _ _ (Nat.le_refl _) (fun _ => hFE) ?_
          clear hK K hr10
          try simp only [Act.put, List.setIfInBounds_toArray, List.set_cons_zero, List.set_cons_succ]
          refine wpSegs_cons rfl (List.getElem?_toArray ..) ?_
          simp only [pick, List.filterMap_cons, List.filterMap_nil, List.getElem?_toArray, List.getElem?_cons_succ, List.getElem?_cons_zero]
          refine wpQuiet_nil ?_
          rw [if_pos (by rfl)]
          intro K hK
          go_simp
          go_at_call 35
          refine HKE.out.mono ?_
          rintro e wF ⟨rfl, hbF⟩
          have hBF : Below wo.heap.size wo wF := hBE.trans (hbF.mono hBE.size)
          refine hK Bd _ _ (Nat.le_refl _) (fun _ => Fr.of_below hbF _) ?_
          clear hK K
          try simp only [Act.put, List.setIfInBounds_toArray, List.set_cons_zero, List.set_cons_succ]
          refine wpSegs_cons rfl (List.getElem?_toArray ..) ?_
          simp only [pick, List.filterMap_cons, List.filterMap_nil, List.getElem?_toArray, List.getElem?_cons_succ, List.getElem?_cons_zero]
          show wpQuiet _ _ _ _ [_, _, _, _] _
          repeat (go_big_quiet_step (fail))
          refine wpQuiet_nil ?_
          rw [if_pos (by rfl)]
          intro K hK
          go_simp
          go_at_call 41
          refine (C0.out _ hBF).mono ?_
          rintro e wG ⟨rfl, hbG⟩
          have hBG : Below wo.heap.size wo wG := hBF.trans (hbG.mono hBF.size)
          refine hK Bd _ _ (Nat.le_refl _) (fun _ => Fr.of_below hbG _) ?_
          clear hK K
          try simp only [Act.put, List.setIfInBounds_toArray, List.set_cons_zero, List.set_cons_succ]
          refine wpSegs_cons rfl (List.getElem?_toArray ..) ?_
          simp only [pick, List.filterMap_cons, List.filterMap_nil, List.getElem?_toArray, List.getElem?_cons_succ, List.getElem?_cons_zero]
          refine wpQuiet_nil ?_
          rw [if_pos (by rfl)]
          intro K hK
          go_simp
          go_at_call 35
          refine (S0.out _ hBG).mono ?_
          rintro e wH ⟨rfl, hbH⟩
          have hBH : Below wo.heap.size wo wH := hBG.trans (hbH.mono hBG.size)
          refine hK Bd _ _ (Nat.le_refl _) (fun _ => Fr.of_below hbH _) ?_
          clear hK K
          try simp only [Act.put, List.setIfInBounds_toArray, List.set_cons_zero, List.set_cons_succ]
          refine wpSegs_nil rfl ?_
          simp only [pick, List.filterMap_cons, List.filterMap_nil, List.getElem?_toArray, List.getElem?_cons_succ, List.getElem?_cons_zero]
          show wpQuiet _ _ _ _ [_, _, _] _
          repeat (go_big_quiet_step (fail))
          refine wpQuiet_nil ?_
          refine NoPan.normal ?_
          go_wp2_with fail
          go_ret
          exact ⟨rfl, hBw.trans (hBH.mono hBw.size)⟩
        focus
          go_simp
          have hsB : Src (wA.alloc (.cells #[.int .u8 120] 5)) 1 (some ⟨wA.heap.size, 0, none⟩) 1 [.int .u8 120] := Src.of_new wA 5 #[.int .u8 120] 1 rfl
          have hFB : Fr nob wA (wA.alloc (.cells #[.int .u8 120] 5)) := (Fr.refl nob _).alloc _
          have hBB : Below wo.heap.size wo (wA.alloc (.cells #[.int .u8 120] 5)) := hB8.trans (hFB.below_nob.mono hB8.size)
          have h7B := h78.fr hFB (fun h => h)
          have hAs := hFB.size
          rw [hAB] at hsB
          obtain ⟨wB, hwB⟩ : ∃ wB, wB = wA.alloc (.cells #[.int .u8 120] 5) := ⟨_, rfl⟩
          rw [← hwB] at hsB hFB hBB h7B hAs ⊢
          clear hwB
          refine hK Bd _ _ (Nat.le_refl _) (fun _ => hFB.mono (fun _ _ h => h.elim)) ?_
          clear hK K
          try simp only [Act.put, List.setIfInBounds_toArray, List.set_cons_zero, List.set_cons_succ]
          refine wpSegs_cons rfl (List.getElem?_toArray ..) ?_
          simp only [pick, List.filterMap_cons, List.filterMap_nil, List.getElem?_toArray, List.getElem?_cons_succ, List.getElem?_cons_zero]
          refine wpQuiet_nil ?_
          rw [if_pos (by rfl)]
          intro K hK
          refine wp_append_o _ (.const (.slice none 0 0)) (.tmp 55) 22 rfl 5 i0 (.int .u8 0) 1 1 Try.underlying22 hi0 hz0 hz1 hz2 rfl (by omega) (.slice none 0 0) 0 [] rfl (Own.nil _ _ _) (some ⟨g7, 0, none⟩) 32 32 (byteVals D1) rfl (by have := bytes_digV h7B; unfold Bytes at this; rwa [HL.out] at this) (byteVals_one _) (by simp only [maxLen]; omega) (by omega) ?_
          intro v9 wC hown9 hf9 hr9
          rw [Nat.zero_add, List.nil_append] at hown9
          have hF9 : Fr nob wB wC := hf9.mono (fun k _ hk => by cases hk)
          have hBC : Below wo.heap.size wo wC := hBB.trans (hF9.below_nob.mono hBB.size)
          have hr9' : ∀ k, rowOf v9 k → wB.heap.size ≤ k := fun k hk => (hr9 k hk).elim (fun h => by cases h) id
          refine hK Bd _ _ (Nat.le_refl _) (fun _ => hF9.mono (fun _ _ h => h.elim)) ?_
          clear hK K
          try simp only [Act.put, List.setIfInBounds_toArray, List.set_cons_zero, List.set_cons_succ]
          have hownC := hown9
          have hsC : Src wC 1 (some ⟨Bd, 0, none⟩) 1 [.int .u8 120] := hsB.fr hF9 (fun _ _ _ _ h => h)
          refine wpSegs_cons rfl (List.getElem?_toArray ..) ?_
          simp only [pick, List.filterMap_cons, List.filterMap_nil, List.getElem?_toArray, List.getElem?_cons_succ, List.getElem?_cons_zero]
          refine wpQuiet_nil ?_
          rw [if_pos (by rfl)]
          intro K hK
          refine wp_append_o _ (.tmp 56) (.tmp 57) 22 rfl 5 i0 (.int .u8 0) 1 1 Try.underlying22 hi0 hz0 hz1 hz2 rfl (by omega) v9 32 (byteVals D1) rfl hownC (some ⟨Bd, 0, none⟩) 1 1 [.int .u8 120] rfl hsC (by simp [Value.oneCell']) (by simp only [maxLen]; omega) (by omega) ?_
          intro v10 wE hown10 hf10 hr10
          obtain ⟨A10, c10', hv10, -, -⟩ := hown10.shape
          subst hv10
          have hFE : Fr (geB Bd) wC wE := hf10.mono (fun k _ hk => by have := hr9' k hk; unfold geB; omega)
          have hBE : Below wo.heap.size wo wE := hBC.trans (hFE.below hBC.size (fun k hk => by unfold geB at hk; have := hB8.size; omega))
          have hyE : Bytes wE A10 (D1 ++ [120]) := by
            have h := Src.of_own hown10
            have e : (D1 ++ [120]).length = 32 + 1 := by rw [List.length_append, HL.out]; rfl
            unfold Bytes
            rw [e, byteVals_append]; exact h
          have hkE := seal_any k (D1 ++ [120]) a0 A10 n cap0 (32 + 1) c10' wE Hn.out (by rw [List.length_append, HL.out]; rfl) (hbk.keep (hBw.trans (hBE.mono hBw.size))) hyE (by omega) (by rw [List.length_append, HL.out]; simp)
          rw [← HD2.out] at hkE
          have HKE := Lib.hid hkE
          clear hkE
          refine hK Bd _ _ (Nat.le_refl _) (fun _ => hFE) ?_
          clear hK K hr10
          try simp only [Act.put, List.setIfInBounds_toArray, List.set_cons_zero, List.set_cons_succ]
          refine wpSegs_cons rfl (List.getElem?_toArray ..) ?_
          simp only [pick, List.filterMap_cons, List.filterMap_nil, List.getElem?_toArray, List.getElem?_cons_succ, List.getElem?_cons_zero]
          refine wpQuiet_nil ?_
          rw [if_pos (by rfl)]
          intro K hK
          go_simp
          go_at_call 35
          refine HKE.out.mono ?_
          rintro e wF ⟨rfl, hbF⟩
          have hBF : Below wo.heap.size wo wF := hBE.trans (hbF.mono hBE.size)
          refine hK Bd _ _ (Nat.le_refl _) (fun _ => Fr.of_below hbF _) ?_
          clear hK K
          try simp only [Act.put, List.setIfInBounds_toArray, List.set_cons_zero, List.set_cons_succ]
          refine wpSegs_cons rfl (List.getElem?_toArray ..) ?_
          simp only [pick, List.filterMap_cons, List.filterMap_nil, List.getElem?_toArray, List.getElem?_cons_succ, List.getElem?_cons_zero]
          show wpQuiet _ _ _ _ [_, _, _, _] _
          repeat (go_big_quiet_step (fail))
          refine wpQuiet_nil ?_
          rw [if_pos (by rfl)]
          intro K hK
          go_simp
          go_at_call 41
          refine (C0.out _ hBF).mono ?_
          rintro e wG ⟨rfl, hbG⟩
          have hBG : Below wo.heap.size wo wG := hBF.trans (hbG.mono hBF.size)
          refine hK Bd _ _ (Nat.le_refl _) (fun _ => Fr.of_below hbG _) ?_
          clear hK K
          try simp only [Act.put, List.setIfInBounds_toArray, List.set_cons_zero, List.set_cons_succ]
          refine wpSegs_cons rfl (List.getElem?_toArray ..) ?_
          simp only [pick, List.filterMap_cons, List.filterMap_nil, List.getElem?_toArray, List.getElem?_cons_succ, List.getElem?_cons_zero]
          refine wpQuiet_nil ?_
          rw [if_pos (by rfl)]
          intro K hK
          go_simp
          go_at_call 35
          refine (S0.out _ hBG).mono ?_
          rintro e wH ⟨rfl, hbH⟩
          have hBH : Below wo.heap.size wo wH := hBG.trans (hbH.mono hBG.size)
          refine hK Bd _ _ (Nat.le_refl _) (fun _ => Fr.of_below hbH _) ?_
          clear hK K
          try simp only [Act.put, List.setIfInBounds_toArray, List.set_cons_zero, List.set_cons_succ]
          refine wpSegs_nil rfl ?_
          simp only [pick, List.filterMap_cons, List.filterMap_nil, List.getElem?_toArray, List.getElem?_cons_succ, List.getElem?_cons_zero]
          show wpQuiet _ _ _ _ [_, _, _] _
          repeat (go_big_quiet_step (fail))
          refine wpQuiet_nil ?_
          refine NoPan.normal ?_
          go_wp2_with fail
          go_ret
          exact ⟨rfl, hBw.trans (hBH.mono hBw.size)⟩
end Go.Proofs.Ytnlkjhhocehhaaa.sealChain
