/- The contract of the reference's Chain. -/
import Derived.Test.YtnlkjhhocehhaaaRefSeal
import Derived.Test.YtnlkjhhocehhaaaChain
import Derived.Test.YtnlkjhhocehhaaaGrow
namespace Go.Proofs.Ytnlkjhhocehhaaa
set_option linter.unusedVariables false
open Go Go.RowKit Go.Proofs Sha
theorem chain_take (k : List UInt8) (ls : List (List UInt8)) (i : Nat) (h : i < ls.length) : chainOf k (ls.take (i + 1)) = sealOf k (chainOf k (ls.take i) ++ ls.getD i []) := by
  rw [List.take_succ_eq_append_getElem h, chainOf_snoc]; simp [h]
theorem wp_store_blk {P : Program} {o : Oper} {a : Act} {w : World} {K : Act → World → Prop} {Q : Exit → Act → World → Prop} (ty : TypeId) (x y : Operand) (ho : o.op = .store ty x y)
    (g : Nat) (t : TypeId) (cur cells : Array Value) (hx : a.eval x = .pointer (some ⟨g, 0, none⟩)) (hy : a.eval y = .agg cells)
    (hb : Blk w g t cur) (hs : cells.size = cur.size) (hi : (P.info? ty).map (·.size) = some cells.size) (h1 : cells.all (·.oneCell') = true)
    (h : ∀ w', Blk w' g t cells → Fr (one g) w w' → K (a.put o.dst undef) w') : o.wp P a w K Q := by
  refine wp_store_mid ty x y ho g 0 cells hx hy (there_of_blk hb 0 _ (by omega)) hi h1 (h _ ?_ (fr_setCells _ _ _))
  have := Blk.setCells (t := t) cells.toList 0 w cur hb (by simp; omega)
  have e : (cur.toList.take 0 ++ cells.toList ++ cur.toList.drop (0 + cells.toList.length)) = cells.toList := by simp [hs]
  rw [e] at this
  simpa using this
set_option maxRecDepth 100000 in
set_option maxHeartbeats 4000000 in
theorem rchain_any (k : List UInt8) (A : Option Addr) (n c : Nat) (hn : n = k.length) (hk1 : k.length ≤ 100000000) (m : Nat) (ls : List (List UInt8)) (B : Option Addr) (d : Nat) (w : World) (hm : m = ls.length) (hmd : m ≤ d) (hdm : d ≤ maxLen) (hP : Parts w B ls) (hls : ∀ l ∈ ls, l.length ≤ 100000000) (hk : Bytes w A k) :
    Calls Try.prog 42 #[.slice A n c, .slice B m d] w fun e w' => e = .returned (.agg (byteVals (chainOf k ls)).toArray) ∧ Below w.heap.size w w' := by
  obtain ⟨i0, hi0, hz0, hz1, hz2⟩ := info_parts info5
  have Hn := Lib.hid hn
  have Hm := Lib.hid hm
  have HLS := Lib.hid hls
  have HPT := Lib.hid hP
  have hmx : (m : Int) ≤ 9223372036854775807 := by unfold maxLen at hdm; omega
  obtain ⟨w1, hw1⟩ : ∃ w1, w1 = w.alloc (.cells zeroOut 25) := ⟨_, rfl⟩
  have hb1 : Below w.heap.size w w1 := by rw [hw1]; exact (Below.refl _ _).alloc (Nat.le_refl _) _
  have ho1 : Blk w1 w.heap.size 25 zeroOut := by rw [hw1]; exact Blk.new _ _ _
  have hk0 := rseal_any k [] A none n c 0 0 w1 hn rfl (hk.keep hb1) (Bytes.nil _ _) (by omega) (by simp)
  obtain ⟨D0, hD0⟩ : ∃ D, D = sealOf k [] := ⟨_, rfl⟩
  have hl0 : D0.length = 32 := by rw [hD0]; exact length_seal _ _
  rw [← hD0] at hk0
  have HK := Lib.hid hk0
  have HW := Lib.hid hw1
  have HD0 := Lib.hid hD0
  have HL0 := Lib.hid hl0
  clear hw1 hm hn hls hP hk0 hD0 hl0
  go_enter Try.func42, Try.ntmps42
  go_wp2_with (first
    | (with_reducible refine wpList_alloc_run rfl 25 rfl zeroOut alloc25 ?_
       first
       | (rw [← HW.out]
          clear HW)
       | skip)
    | (go_at_call 36
       refine HK.out.mono ?_
       rintro e w2 ⟨rfl, hb2⟩
       have ho2 : Blk w2 w.heap.size 25 zeroOut := ho1.below hb2 ho1.lt
       have hB2 : Below w.heap.size w w2 := hb1.trans (hb2.mono hb1.size))
    | (refine wpList_store_blk rfl 25 (.tmp 5) (.tmp 8) rfl w2.heap.size 25 zeroOut (digV D0) rfl rfl (Blk.new w2 25 zeroOut) (zero_digV _ HL0.out) (info_digV _ HL0.out) (one_digV _) ?_
       intro w3 hb3 hf3)
    | fail)
  have hF3 : Fr nob w2 w3 := ((Fr.refl nob w2).alloc (.cells zeroOut 25)).then hf3 (fun i hi => Or.inr (by unfold one at hi; omega))
  have hB3 : Below w.heap.size w w3 := hB2.trans (hF3.below_nob.mono hB2.size)
  have ho3 : Blk w3 w.heap.size 25 zeroOut := ho2.fr hF3 (fun h => h)
  obtain ⟨g, hg⟩ : ∃ g, g = w2.heap.size := ⟨_, rfl⟩
  have hgw : w.heap.size < g := by rw [hg]; exact ho2.lt
  rw [← hg] at hb3 ⊢
  clear hg hF3 hf3 ho2 hB2 hb2
  go_loopw [6] (fun c6 wr => ∃ i : Nat, i ≤ m ∧ c6 = .int .i64 i ∧ Blk wr g 25 (digV (chainOf k (ls.take i))) ∧ Blk wr w.heap.size 25 zeroOut ∧ Below w.heap.size w wr) (fun c6 _ => m - (intOf c6).toNat)
  case atStart => exact ⟨0, by omega, rfl, by rw [List.take_zero, show chainOf k [] = D0 from HD0.out.symm]; exact hb3, ho3, hB3⟩
  case round =>
    clear hb3 ho3 hB3
    obtain ⟨i, hi, rfl, hb, ho, hB⟩ := hrel
    obtain ⟨D, hD⟩ : ∃ D, D = chainOf k (ls.take i) := ⟨_, rfl⟩
    have hDl : D.length = 32 := by rw [hD]; exact length_chainOf _ _
    rw [← hD] at hb
    have HD := Lib.hid hD
    have HDl := Lib.hid hDl
    clear hD hDl
    by_cases hlt : i < m
    · have hd : decide ((i : Int) < (m : Int)) = true := decide_eq_true (by omega)
      obtain ⟨Bg, Bo, hBe, hBg, hBc⟩ := HPT.out (by have := Hm.out; omega)
      subst hBe
      obtain ⟨pv, hpc, hpa⟩ := hBc i (by have := Hm.out; omega)
      have hstep := chain_take k ls i (by have := Hm.out; omega)
      obtain ⟨p, hp⟩ : ∃ p, p = ls.getD i [] := ⟨_, rfl⟩
      rw [← hp] at hpa hstep
      rw [← HD.out] at hstep
      have hpl : p.length ≤ 100000000 := HLS.out p (by rw [hp, List.getD_eq_getElem?_getD, List.getElem?_eq_getElem (by have := Hm.out; omega)]; simp)
      obtain ⟨PA, pc, hpv, hp1, hp2, hpb⟩ := hpa
      subst hpv
      obtain ⟨q, hq⟩ : ∃ q, q = p.length := ⟨_, rfl⟩
      rw [← hq] at hpc hp1 hpl
      have Hq := Lib.hid hq
      have HST := Lib.hid hstep
      have hBgr : Bg < wr.heap.size := Nat.lt_of_lt_of_le hBg hB.size
      have hcr : wr.cell? ⟨Bg, Bo + i, none⟩ = some (.slice PA q pc) := (hB.cell (p := ⟨Bg, Bo + i, none⟩) hBg).trans hpc
      have h0i : (0 : Int) ≤ (i : Int) := by omega
      have him : (i : Int) < (m : Int) := by omega
      clear hq hp hstep hBc hpc
      obtain ⟨wo, rfl⟩ : ∃ wo : World, wo = wr := ⟨_, rfl⟩
      go_wp2_with fail
      refine wp_region_grow 9 [([0, 1, 3, 4, 5, 6], 2), ([], 7), ([], 8), ([], 9)] [] (by kernel_rfl) (by kernel_rfl) ?_
      have hBA : Below w.heap.size w wo.drew := hB.trans ((Below.refl wo.heap.size wo).drew.mono hB.size)
      have hbA : Blk wo.drew g 25 (digV D) := hb.drew
      have hoA : Blk wo.drew w.heap.size 25 zeroOut := ho.drew
      have hAB : wo.drew.heap.size = wo.heap.size := rfl
      have hgB : g < wo.heap.size := hb.lt
      have hpcA : wo.drew.cell? ⟨Bg, Bo + i, none⟩ = some (.slice PA q pc) := hcr
      obtain ⟨Bd, hBd⟩ : ∃ Bd, Bd = wo.heap.size := ⟨_, rfl⟩
      rw [← hBd] at hAB hgB ⊢
      have hBgB : Bg < Bd := by rw [hBd]; exact hBgr
      obtain ⟨wA, hwA⟩ : ∃ wA, wA = wo.drew := ⟨_, rfl⟩
      rw [← hwA] at hBA hbA hoA hAB hpcA ⊢
      have hBgA : Bg < wA.heap.size := by rw [hAB]; exact hBgB
      clear hwA hBd hcr hBgr hb ho hB
      refine wpSegs_cons rfl (List.getElem?_toArray ..) ?_
      simp only [pick, List.filterMap_cons, List.filterMap_nil, List.getElem?_toArray, List.getElem?_cons_succ, List.getElem?_cons_zero]
      show wpQuiet _ _ _ _ [_, _, _, _, _, _] _
      repeat (go_big_quiet_step (fail))
      refine wpQuiet_nil ?_
      rw [if_pos (by rfl)]
      intro K hK
      refine wp_append_o _ (.const (.slice none 0 0)) (.tmp 16) 22 rfl 5 i0 (.int .u8 0) 1 1 Try.underlying22 hi0 hz0 hz1 hz2 rfl (by omega) (.slice none 0 0) 0 [] rfl (Own.nil _ _ _) (some ⟨g, 0, none⟩) 32 32 (byteVals D) rfl (by have := bytes_digV hbA; unfold Bytes at this; rwa [HDl.out] at this) (byteVals_one _) (by simp only [maxLen]; omega) (by omega) ?_
      intro v1 wB hown1 hf1 hr1
      rw [Nat.zero_add, List.nil_append] at hown1
      have hFB : Fr nob wA wB := hf1.mono (fun k _ hk => by cases hk)
      have hBB : Below w.heap.size w wB := hBA.trans (hFB.below_nob.mono hBA.size)
      have hbB := hbA.fr hFB (fun h => h)
      have hoB := hoA.fr hFB (fun h => h)
      have hr1A : ∀ k, rowOf v1 k → wA.heap.size ≤ k := fun k hk => (hr1 k hk).elim (fun h => by cases h) id
      refine hK Bd _ _ (Nat.le_refl _) (fun _ => hFB.mono (fun _ _ h => h.elim)) ?_
      clear hK K hr1
      try simp only [Act.put, List.setIfInBounds_toArray, List.set_cons_zero, List.set_cons_succ]
      refine wpSegs_cons rfl (List.getElem?_toArray ..) ?_
      simp only [pick, List.filterMap_cons, List.filterMap_nil, List.getElem?_toArray, List.getElem?_cons_succ, List.getElem?_cons_zero]
      refine wpQuiet_nil ?_
      rw [if_pos (by rfl)]
      intro K hK
      refine wp_append_o _ (.tmp 17) (.tmp 21) 22 rfl 5 i0 (.int .u8 0) 1 1 Try.underlying22 hi0 hz0 hz1 hz2 rfl (by omega) v1 32 (byteVals D) rfl hown1 PA q pc (byteVals p) rfl (by have := hpb.keep hBB; unfold Bytes at this; rwa [← Hq.out] at this) (byteVals_one _) (by simp only [maxLen]; omega) (by omega) ?_
      intro v2 wC hown2 hf2 hr2
      obtain ⟨A2, cap2, hv2, -, -⟩ := hown2.shape
      subst hv2
      have hFC : Fr (geB Bd) wB wC := hf2.mono (fun k _ hk => by have := hr1A k hk; unfold geB; omega)
      have hBC : Below w.heap.size w wC := hBB.trans (hFC.below hBB.size (fun k hk => by unfold geB at hk; have := hBA.size; omega))
      have hbC := hbB.fr hFC (geB_not hgB)
      have hoC := hoB.fr hFC (geB_not (by omega))
      have hyC : Bytes wC A2 (D ++ p) := by
        have h := Src.of_own hown2
        have e : (D ++ p).length = 32 + q := by rw [List.length_append, HDl.out, ← Hq.out]
        unfold Bytes
        rw [e, byteVals_append]; exact h
      have hk3 := rseal_any k (D ++ p) A A2 n c (32 + q) cap2 wC Hn.out (by rw [List.length_append, HDl.out, ← Hq.out]) (hk.keep hBC) hyC (by omega) (by rw [List.length_append, HDl.out, ← Hq.out]; omega)
      obtain ⟨E, hE⟩ : ∃ E, E = sealOf k (D ++ p) := ⟨_, rfl⟩
      have hEl : E.length = 32 := by rw [hE]; exact length_seal _ _
      rw [← hE] at hk3
      have HE := Lib.hid hE
      have HK3 := Lib.hid hk3
      clear hk3 hE
      refine hK Bd _ _ (Nat.le_refl _) (fun _ => hFC) ?_
      clear hK K hr2 hr1A
      try simp only [Act.put, List.setIfInBounds_toArray, List.set_cons_zero, List.set_cons_succ]
      refine wpSegs_cons rfl (List.getElem?_toArray ..) ?_
      simp only [pick, List.filterMap_cons, List.filterMap_nil, List.getElem?_toArray, List.getElem?_cons_succ, List.getElem?_cons_zero]
      refine wpQuiet_nil ?_
      rw [if_pos (by rfl)]
      intro K hK
      go_simp
      go_at_call 36
      refine HK3.out.mono ?_
      rintro e wD ⟨rfl, hbD⟩
      have hBD : Below w.heap.size w wD := hBC.trans (hbD.mono hBC.size)
      have hgD := hbC.below hbD hbC.lt
      have hoD := hoC.below hbD hoC.lt
      refine hK Bd _ _ (Nat.le_refl _) (fun _ => Fr.of_below hbD _) ?_
      clear hK K HK3
      try simp only [Act.put, List.setIfInBounds_toArray, List.set_cons_zero, List.set_cons_succ]
      refine wpSegs_cons rfl (List.getElem?_toArray ..) ?_
      simp only [pick, List.filterMap_cons, List.filterMap_nil, List.getElem?_toArray, List.getElem?_cons_succ, List.getElem?_cons_zero]
      refine wpQuiet_nil ?_
      rw [if_pos (by rfl)]
      intro K hK
      refine wp_store_blk 25 (.tmp 5) (.tmp 23) rfl g 25 (digV D) (digV E) rfl rfl hgD (by rw [size_digV D HDl.out, size_digV E hEl]) (info_digV E hEl) (one_digV E) ?_
      intro wE hbE hfE
      refine hK Bd _ _ (Nat.le_refl _) (fun h => absurd rfl h) ?_
      clear hK K
      try simp only [Act.put, List.setIfInBounds_toArray, List.set_cons_zero, List.set_cons_succ]
      refine wpSegs_nil rfl ?_
      simp only [pick, List.filterMap_cons, List.filterMap_nil, List.getElem?_toArray, List.getElem?_cons_succ, List.getElem?_cons_zero]
      refine wpQuiet_nil ?_
      refine NoPan.normal ?_
      go_wp2_with fail
      go_roundw
      case rel => exact ⟨i + 1, by omega, by go_num, by rw [HST.out, ← HE.out]; exact hbE, hoD.fr hfE (by unfold one; omega), hBD.trans (hfE.below hBD.size (fun k hk => by unfold one at hk; omega))⟩
      case measure => simp [intOf]; omega
    · have hd : decide ((i : Int) < (m : Int)) = false := decide_eq_false (by omega)
      obtain rfl : i = m := by omega
      have hfin : chainOf k ls = D := by rw [HD.out, List.take_of_length_le (by have := Hm.out; omega)]
      have HFI := Lib.hid hfin
      clear hfin
      obtain ⟨wo, rfl⟩ : ∃ wo : World, wo = wr := ⟨_, rfl⟩
      go_wp2_with (first
        | (refine wpList_load_blk rfl 25 (.tmp 5) rfl g 25 (digV D) _ rfl hb Try.underlying25 rfl (info_digV D HDl.out) ?_)
        | (refine wpList_store_blk rfl 25 (.tmp 4) (.tmp 24) rfl w.heap.size 25 zeroOut (digV D) rfl rfl ho (zero_digV D HDl.out) (info_digV D HDl.out) (one_digV D) ?_
           intro w12 hb12 hf12)
        | fail)
      exact bodyPost_ret (v := .agg (digV D)) (by
        refine results_cell_row (cs := digV D) rfl _ _ w.heap.size 25 (0, 0) _ rfl hb12 Try.underlying25 rfl (info_digV D HDl.out)) rfl
        ⟨by rw [HFI.out]; rfl, hB.trans (hf12.below hB.size (fun k hk => by cases hk; exact Nat.le_refl _))⟩
end Go.Proofs.Ytnlkjhhocehhaaa
