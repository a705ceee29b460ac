/- The contract of seal.Chain: the seal of parts, one behind the other. -/
import Derived.Test.YtnlkjhhocehhaaaHeader
import Derived.Test.YtnlkjhhocehhaaaLate
import Derived.ArgAppend
namespace Go.Proofs.Ytnlkjhhocehhaaa
set_option linter.unusedVariables false
open Go Go.RowKit Go.Proofs Sha
def chainOf (k : List UInt8) (ls : List (List UInt8)) : List UInt8 := ls.foldl (fun d p => sealOf k (d ++ p)) (sealOf k [])
theorem chainOf_snoc (k : List UInt8) (ls : List (List UInt8)) (p : List UInt8) : chainOf k (ls ++ [p]) = sealOf k (chainOf k ls ++ p) := by simp [chainOf]
theorem length_chainOf (k : List UInt8) (ls : List (List UInt8)) : (chainOf k ls).length = 32 := by
  rcases List.eq_nil_or_concat ls with rfl | ⟨i, p, rfl⟩
  · exact length_seal _ _
  · rw [List.concat_eq_append, chainOf_snoc]; exact length_seal _ _
def digV (l : List UInt8) : Array Value := (byteVals l).toArray
theorem size_digV (l : List UInt8) (h : l.length = 32) : (digV l).size = 32 := by simp [digV, byteVals, h]
theorem info_digV (l : List UInt8) (h : l.length = 32) : (Try.prog.info? 25).map (·.size) = some (digV l).size := by rw [size_digV l h]; kernel_rfl
theorem one_digV (l : List UInt8) : (digV l).all (·.oneCell') = true := all_oneCell_toArray (byteVals_one _)
theorem zero_digV (l : List UInt8) (h : l.length = 32) : (digV l).size = zeroOut.size := by rw [size_digV l h]; rfl
theorem bytes_digV {w : World} {g : Nat} {l : List UInt8} (h : Blk w g 25 (digV l)) : Bytes w (some ⟨g, 0, none⟩) l :=
  ⟨by simp [byteVals], fun _ => ⟨g, 0, rfl, h.lt, fun j u hj => by rw [h.cell, Nat.zero_add]; simpa [digV] using hj⟩⟩
/-- A part: a slice of bytes. -/
def PartAt (w : World) (v : Value) (l : List UInt8) : Prop := ∃ A c, v = .slice A l.length c ∧ l.length ≤ c ∧ c ≤ maxLen ∧ Bytes w A l
def Parts (w : World) (A : Option Addr) (ls : List (List UInt8)) : Prop := 0 < ls.length → ∃ g o, A = some ⟨g, o, none⟩ ∧ g < w.heap.size ∧ ∀ i, i < ls.length → ∃ v, w.cell? ⟨g, o + i, none⟩ = some v ∧ PartAt w v (ls.getD i [])
theorem PartAt.keep {w w' : World} {v : Value} {l : List UInt8} (h : PartAt w v l) (hb : Below w.heap.size w w') : PartAt w' v l := by
  obtain ⟨A, c, h1, h2, h3, h4⟩ := h
  exact ⟨A, c, h1, h2, h3, h4.keep hb⟩
theorem Parts.keep {w w' : World} {A : Option Addr} {ls : List (List UInt8)} (h : Parts w A ls) (hb : Below w.heap.size w w') : Parts w' A ls := fun h0 => by
  obtain ⟨g, o, rfl, hg, hc⟩ := h h0
  refine ⟨g, o, rfl, Nat.lt_of_lt_of_le hg hb.size, fun i hi => ?_⟩
  obtain ⟨v, h1, h2⟩ := hc i hi
  exact ⟨v, (hb.cell (p := ⟨g, o + i, none⟩) hg).trans h1, h2.keep hb⟩
theorem Parts.init {w : World} {A : Option Addr} {ls : List (List UInt8)} {p : List UInt8} (h : Parts w A (ls ++ [p])) : Parts w A ls := fun h0 => by
  obtain ⟨g, o, rfl, hg, hc⟩ := h (by simp)
  refine ⟨g, o, rfl, hg, fun i hi => ?_⟩
  obtain ⟨v, h1, h2⟩ := hc i (by simp; omega)
  rw [List.getD_eq_getElem?_getD, List.getElem?_append_left hi, ← List.getD_eq_getElem?_getD] at h2
  exact ⟨v, h1, h2⟩
/-- append to a digest's array: it is full. -/
theorem run_append_full (w : World) (ty : TypeId) (g n : Nat) (d p : List UInt8) (hn : n = d.length) (hd : Bytes w (some ⟨g, 0, none⟩) d) (A : Option Addr) (m c : Nat) (hm : m = p.length) (hp : Bytes w A p) (hnm : n + m ≤ 1000000000) :
    ∃ A' c' w', (Builtin.append_ #[22, 22] ty #[.slice (some ⟨g, 0, none⟩) n n, .slice A m c]).run Try.prog w = .ok (.slice A' (n + m) c') w' ∧ Bytes w' A' (d ++ p) ∧ Below w.heap.size w w' := by
  subst hn hm
  obtain ⟨i0, hi0, hz0, hz1, hz2⟩ := info_parts info5
  rcases Nat.eq_zero_or_pos p.length with h0 | h0
  · have : p = [] := List.eq_nil_of_length_eq_zero h0
    subst this
    refine ⟨some ⟨g, 0, none⟩, d.length, w, ?_, by simpa using hd, Below.refl _ _⟩
    rcases A with _ | ad
    · simp [Builtin.append_, run_underlying Try.underlying22, sizeOf, typeInfo, hi0, hz1, Builtin.lenOf, Builtin.firstCells, storeCells]
    · simp [Builtin.append_, run_underlying Try.underlying22, sizeOf, typeInfo, hi0, hz1, Builtin.lenOf, Builtin.firstCells, storeCells, loadCells, loadCellsFrom]
  · obtain ⟨sg, so, rfl, _, hc⟩ := hp.2 h0
    obtain ⟨v', w', hrun, h2, h3⟩ := run_append_arg_grows (P := Try.prog) w 22 ty 5 i0 (.int .u8 0) 1 1 Try.underlying22 hi0 hz0 hz1 hz2 rfl (by decide) ⟨g, 0, none⟩ d.length d.length (byteVals d) (by simp [byteVals])
      (fun j u hj => by
        have hjd : j < d.length := by have := (List.getElem?_eq_some_iff.1 hj).1; simpa [byteVals] using this
        obtain ⟨g', o', e, _, hc'⟩ := hd.2 (by omega)
        cases e
        rw [Addr.add_mid]; exact hc' j u hj)
      ⟨sg, so, none⟩ p.length c (byteVals p) (by simp [byteVals]) (fun j u hj => by rw [Addr.add_mid]; exact hc j u hj) (by omega) (by simp only [maxLen]; omega) (by omega)
    obtain ⟨A', c', rfl, _, _⟩ := (Own.of_owns h2).shape
    refine ⟨A', c', w', hrun, ?_, (Fr.of_grown (S := nob) h3 (fun k hk => by cases hk)).below_nob⟩
    have h := Src.of_own (Own.of_owns h2)
    rw [← byteVals_append] at h
    unfold Bytes
    rw [List.length_append]; exact h
theorem wpList_append_full {w : World} {ops : Array Oper} {rest : List Oper} {o : Oper} {a : Act} {Q : Exit → Act → World → Prop} (hgd : o.guard = none) (sx x : Operand)
    (ho : o.op = .call { callee := .builtin .append, args := #[sx, x], argTypes := #[22, 22] })
    (g n : Nat) (d p : List UInt8) (hs : a.eval sx = .slice (some ⟨g, 0, none⟩) n n) (hn : n = d.length) (hd : Bytes w (some ⟨g, 0, none⟩) d) (A : Option Addr) (m c : Nat) (hx : a.eval x = .slice A m c) (hm : m = p.length) (hp : Bytes w A p) (hnm : n + m ≤ 1000000000)
    (h : ∀ A' c' w', Bytes w' A' (d ++ p) → Below w.heap.size w w' → wpList Try.prog ops Q rest (a.put o.dst (.slice A' (n + m) c')) w') : wpList Try.prog ops Q (o :: rest) a w :=
  wpList_plain hgd fun _ hK => by
    obtain ⟨A', c', w', hrun, h2, h3⟩ := run_append_full w o.type g n d p hn hd A m c hm hp hnm
    unfold Oper.wp execOp
    simp only [ho, resolve, invoke, builtin, Sem.run_bind, Sem.run_pure, Result.andThen_ok, List.map_toArray, List.map_cons, List.map_nil, hs, hx, hrun]
    exact hK _ _ (h A' c' w' h2 h3)
theorem wp_append_full {w : World} {o : Oper} {a : Act} {K : Act → World → Prop} {Q : Exit → Act → World → Prop} (sx x : Operand)
    (ho : o.op = .call { callee := .builtin .append, args := #[sx, x], argTypes := #[22, 22] })
    (g n : Nat) (d p : List UInt8) (hs : a.eval sx = .slice (some ⟨g, 0, none⟩) n n) (hn : n = d.length) (hd : Bytes w (some ⟨g, 0, none⟩) d) (A : Option Addr) (m c : Nat) (hx : a.eval x = .slice A m c) (hm : m = p.length) (hp : Bytes w A p) (hnm : n + m ≤ 1000000000)
    (h : ∀ A' c' w', Bytes w' A' (d ++ p) → Below w.heap.size w w' → K (a.put o.dst (.slice A' (n + m) c')) w') : o.wp Try.prog a w K Q := by
  obtain ⟨A', c', w', hrun, h2, h3⟩ := run_append_full w o.type g n d p hn hd A m c hm hp hnm
  unfold Oper.wp execOp
  simp only [ho, resolve, invoke, builtin, Sem.run_bind, Sem.run_pure, Result.andThen_ok, List.map_toArray, List.map_cons, List.map_nil, hs, hx, hrun]
  exact h A' c' w' h2 h3
set_option maxRecDepth 100000 in
set_option maxHeartbeats 2000000 in
theorem chain_any (k : List UInt8) (A : Option Addr) (n c : Nat) (hn : n = k.length) (hk1 : k.length ≤ 100000000) : ∀ (m : Nat) (ls : List (List UInt8)) (B : Option Addr) (d : Nat) (w : World), m = ls.length → m ≤ d → d ≤ maxLen → Parts w B ls → (∀ l ∈ ls, l.length ≤ 100000000) → Bytes w A k →
    Calls Try.prog 41 #[.slice A n c, .slice B m d] w fun e w' => e = .returned (.agg (byteVals (chainOf k ls)).toArray) ∧ Below w.heap.size w w'
  | 0, ls, B, d, w, hm, _, _, _, _, hk => by
    obtain rfl : ls = [] := List.eq_nil_of_length_eq_zero hm.symm
    obtain ⟨w1, hw1⟩ : ∃ w1, w1 = w.alloc (.cells zeroOut 25) := ⟨_, rfl⟩
    have hb1 : Below w.heap.size w w1 := by rw [hw1]; exact (Below.refl _ _).alloc (Nat.le_refl _) _
    have ho1 : Blk w1 w.heap.size 25 zeroOut := by rw [hw1]; exact Blk.new _ _ _
    have HK := Lib.hid (seal_any k [] A none n c 0 0 w1 hn rfl (hk.keep hb1) (Bytes.nil _ _) (by omega) (by simp))
    rw [hw1] at HK
    have HW := Lib.hid hw1
    clear hw1 hm hn
    go_enter Try.func41, Try.ntmps41
    go_wp2_with (first
      | (with_reducible refine wpList_alloc_run rfl 25 rfl zeroOut alloc25 ?_)
      | (go_at_call 35
         refine HK.out.mono ?_
         rintro e w2 ⟨rfl, hb2⟩
         rw [← HW.out] at hb2
         have ho2 : Blk w2 w.heap.size 25 zeroOut := ho1.below hb2 ho1.lt
         have hB2 : Below w.heap.size w w2 := hb1.trans (hb2.mono hb1.size))
      | (refine wpList_store_blk rfl 25 (.tmp 4) (.tmp 11) rfl w.heap.size 25 zeroOut (sealV k []) rfl rfl ho2 (zero_sealV _ _) (info_sealV _ _) (one_sealV _ _) ?_
         intro w3 hb3 hf3)
      | fail)
    exact bodyPost_ret (v := .agg (sealV k [])) (by
      refine results_cell_row (cs := sealV k []) rfl _ _ w.heap.size 25 (0, 0) _ rfl hb3 Try.underlying25 rfl (info_sealV _ _)) rfl
      ⟨rfl, hB2.trans (hf3.below hB2.size (fun k hk => by cases hk; exact Nat.le_refl _))⟩
  | m + 1, ls, B, d, w, hm, hmd, hdm, hP, hls, hk => by
    obtain ⟨li, p, rfl⟩ : ∃ li p, ls = li ++ [p] := by
      rcases List.eq_nil_or_concat ls with rfl | ⟨i, p, rfl⟩
      · simp at hm
      · exact ⟨i, p, by rw [List.concat_eq_append]⟩
    have hlm : m = li.length := by simpa using hm
    obtain ⟨Bg, Bo, rfl, hBg, hBc⟩ := hP (by simp)
    obtain ⟨pv, hpc, hpa⟩ := hBc m (by simp; omega)
    rw [List.getD_eq_getElem?_getD, List.getElem?_append_right (by omega), hlm, Nat.sub_self] at hpa
    have hpa' : PartAt w pv p := by simpa using hpa
    clear hpa
    obtain ⟨PA, pc, rfl, hp1, hp2, hpb⟩ := hpa'
    have hpl : p.length ≤ 100000000 := hls p (by simp)
    have hPi := hP.init
    have hlsi : ∀ l ∈ li, l.length ≤ 100000000 := fun l hl => hls l (by simp [hl])
    obtain ⟨w1, hw1⟩ : ∃ w1, w1 = w.alloc (.cells zeroOut 25) := ⟨_, rfl⟩
    have hb1 : Below w.heap.size w w1 := by rw [hw1]; exact (Below.refl _ _).alloc (Nat.le_refl _) _
    have ho1 : Blk w1 w.heap.size 25 zeroOut := by rw [hw1]; exact Blk.new _ _ _
    have HK := Lib.hid (chain_any k A n c hn hk1 m li (some ⟨Bg, Bo, none⟩) d w1 hlm (by omega) hdm (hPi.keep hb1) hlsi (hk.keep hb1))
    have HW := Lib.hid hw1
    have Hn := Lib.hid hn
    have Hlm := Lib.hid hlm
    obtain ⟨q, hq⟩ : ∃ q, q = p.length := ⟨_, rfl⟩
    rw [← hq] at hpc hp1 hpl
    have Hq := Lib.hid hq
    obtain ⟨D, hD⟩ : ∃ D, D = chainOf k li := ⟨_, rfl⟩
    have hDl : D.length = 32 := by rw [hD]; exact length_chainOf _ _
    rw [← hD] at HK
    have HD := Lib.hid hD
    have HDl := Lib.hid hDl
    have hmd' : (m : Int) ≤ (d : Int) := by omega
    have hBc' := hpc
    have hmm : (m : Int) + 1 ≤ 9223372036854775807 := by unfold maxLen at hdm; omega
    have hwr : wrap64 (m : Int) = m := by unfold wrap64; omega
    have hne : ((m : Int) + 1 == 0) = false := beq_eq_false_iff_ne.2 (Int.ne_of_gt (Int.lt_add_one_of_le (Int.natCast_nonneg m)))
    clear hw1 hm hn hls hlsi hP hPi hBc hlm hq hD hDl hpc
    go_enter Try.func41, Try.ntmps41
    go_wp2_with (first
      | (with_reducible refine wpList_alloc_run rfl 25 rfl zeroOut alloc25 ?_
         rw [← HW.out])
      | (go_at_call 41
         refine HK.out.mono ?_
         rintro e w2 ⟨rfl, hb2⟩
         have ho2 : Blk w2 w.heap.size 25 zeroOut := ho1.below hb2 ho1.lt
         have hB2 : Below w.heap.size w w2 := hb1.trans (hb2.mono hb1.size)
         clear HW)
      | (refine wpList_store_blk rfl 25 (.tmp 6) (.tmp 19) rfl w2.heap.size 25 zeroOut (digV D) rfl rfl (Blk.new w2 25 zeroOut) (zero_digV _ HDl.out) (info_digV _ HDl.out) (one_digV _) ?_
         intro w3 hb3 hf3)
      | fail)
    have hF3 : Fr nob w2 w3 := ((Fr.refl nob w2).alloc (.cells zeroOut 25)).then hf3 (fun i hi => Or.inr (by unfold one at hi; omega))
    have hB3 : Below w.heap.size w w3 := hB2.trans (hF3.below_nob.mono hB2.size)
    have ho3 : Blk w3 w.heap.size 25 zeroOut := ho2.fr hF3 (fun h => h)
    have hBg3 : Bg < w3.heap.size := Nat.lt_of_lt_of_le hBg hB3.size
    have hBc3 : w3.cell? ⟨Bg, Bo + m, none⟩ = some (.slice PA q pc) := (hB3.cell (p := ⟨Bg, Bo + m, none⟩) hBg).trans hBc'
    have h0m : (0 : Int) ≤ (m : Int) := by omega
    have hmm1 : (m : Int) < (m : Int) + 1 := by omega
    clear hBc' hF3 hf3 ho2 hb2
    simp only [Act.put, List.setIfInBounds_toArray, List.set_cons_zero, List.set_cons_succ]
    refine wp_region_late nob 6 1 1 (by kernel_rfl) (by kernel_rfl) rfl ?_
    simp only [List.take_succ_cons, List.take_zero, List.drop_succ_cons, List.drop_zero]
    repeat (go_big_quiet_step (fail))
    refine wpQuiet_nil ?_
    have hb4 : Below w3.heap.size w3 w3.drew := (Below.refl _ _).drew
    obtain ⟨w4, hw4⟩ : ∃ w4, w4 = w3.drew := ⟨_, rfl⟩
    rw [← hw4] at hb4 ⊢
    clear hw4
    have hb34 := hb3.below hb4 hb3.lt
    have hB4 : Below w.heap.size w w4 := hB3.trans (hb4.mono hB3.size)
    refine wpKeep_step rfl (fun K2 hK2 => ?_)
    refine wp_append_full (.tmp 21) (.tmp 25) rfl w2.heap.size 32 D p rfl HDl.out.symm (bytes_digV hb34) PA q pc rfl Hq.out (hpb.keep hB4) (by omega) ?_
    intro A5 c5 w5 hby5 hb5
    have hb35 : Below w3.heap.size w3 w5 := hb4.trans (hb5.mono hb4.size)
    refine hK2 _ _ (Fr.of_below hb35 nob) ?_
    refine wpKeep_nil ?_
    clear hK2
    have hB5 : Below w.heap.size w w5 := hB4.trans (hb5.mono hB4.size)
    have ho5 := (ho3.below hb4 ho3.lt).below hb5 (ho3.below hb4 ho3.lt).lt
    have HK5 := Lib.hid (seal_any k (D ++ p) A A5 n c (32 + q) c5 w5 Hn.out (by rw [List.length_append, HDl.out, ← Hq.out]) (hk.keep hB5) hby5 (by omega) (by rw [List.length_append, HDl.out, ← Hq.out]; omega))
    go_wp2_with (first
      | (go_at_call 35
         refine HK5.out.mono ?_
         rintro e w6 ⟨rfl, hb6⟩
         have ho6 := ho5.below hb6 ho5.lt
         have hB6 : Below w.heap.size w w6 := hB5.trans (hb6.mono hB5.size))
      | (refine wpList_store_blk rfl 25 (.tmp 4) (.tmp 27) rfl w.heap.size 25 zeroOut (sealV k (D ++ p)) rfl rfl ho6 (zero_sealV _ _) (info_sealV _ _) (one_sealV _ _) ?_
         intro w7 hb7 hf7)
      | fail)
    refine NoPan.normal ?_
    go_wp2_with fail
    exact bodyPost_ret (v := .agg (sealV k (D ++ p))) (by
      refine results_cell_row (cs := sealV k (D ++ p)) rfl _ _ w.heap.size 25 (0, 0) _ rfl hb7 Try.underlying25 rfl (info_sealV _ _)) rfl
      ⟨by rw [chainOf_snoc, ← HD.out]; rfl, hB6.trans (hf7.below hB6.size (fun k hk => by cases hk; exact Nat.le_refl _))⟩
end Go.Proofs.Ytnlkjhhocehhaaa
