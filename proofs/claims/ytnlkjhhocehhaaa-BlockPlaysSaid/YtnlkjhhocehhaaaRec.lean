/- Slices of byte slices; Grow, Concat; the record of bytes. -/
import Derived.Test.YtnlkjhhocehhaaaLaw2a
import Derived.Test.YtnlkjhhocehhaaaFrame
import Derived.Test.YtnlkjhhocehhaaaGrow
import Derived.Lib.AppendZerosOnto
namespace Go.Proofs.Ytnlkjhhocehhaaa
set_option linter.unusedVariables false
open Go Go.RowKit Go.Proofs Sha
/-- A value that is a slice of bytes. -/
def Sl (w : World) (u : Value) (x : List UInt8) : Prop := ∃ A c, u = .slice A x.length c ∧ x.length ≤ c ∧ c ≤ maxLen ∧ Bytes w A x ∧ (A = none → c = 0)
theorem Sl.keep {w w' : World} {u : Value} {x : List UInt8} (h : Sl w u x) (hb : Below w.heap.size w w') : Sl w' u x := by
  obtain ⟨A, c, h1, h2, h3, h4, h5⟩ := h
  exact ⟨A, c, h1, h2, h3, h4.keep hb, h5⟩
/-- A row of byte slices. -/
def Ls (w : World) (v : Value) (l : List (List UInt8)) : Prop := ∃ us : List Value, us.length = l.length ∧ Own w 22 1 v l.length us ∧ ∀ i, i < l.length → Sl w (us.getD i undef) (l.getD i [])
theorem Ls.nil (w : World) : Ls w (.slice none 0 0) [] := ⟨[], rfl, Own.nil _ _ _, fun i h => by simp at h⟩
theorem Ls.keep {w w' : World} {v : Value} {l : List (List UInt8)} (h : Ls w v l) (hb : Below w.heap.size w w') : Ls w' v l := by
  obtain ⟨us, h1, h2, h3⟩ := h
  exact ⟨us, h1, Own.fr h2 (Fr.of_below hb nob) (fun _ h => h.elim), fun i hi => (h3 i hi).keep hb⟩
theorem Ls.shape {w : World} {v : Value} {l : List (List UInt8)} (h : Ls w v l) : ∃ A cap, v = .slice A l.length cap ∧ l.length ≤ cap ∧ cap ≤ maxLen := by
  obtain ⟨us, h1, h2, h3⟩ := h
  exact h2.shape
theorem Ls.at_ {w : World} {v : Value} {l : List (List UInt8)} (h : Ls w v l) (i : Nat) (hi : i < l.length) : ∃ g o cap A c, v = .slice (some ⟨g, o, none⟩) l.length cap ∧ g < w.heap.size ∧ w.cell? ⟨g, o + i, none⟩ = some (.slice A (l.getD i []).length c) ∧ Bytes w A (l.getD i []) ∧ (l.getD i []).length ≤ c ∧ c ≤ maxLen ∧ (A = none → c = 0) := by
  obtain ⟨us, h1, h2, h3⟩ := h
  obtain ⟨A, c, e1, e2, e3, e4, e5⟩ := h3 i hi
  rcases h2.2 with ⟨_, h0⟩ | ⟨g, o, cap, cur, rfl, hb, hc, hm, hfit, hx⟩
  · omega
  · refine ⟨g, o, cap, A, c, rfl, hb.lt, ?_, e4, e2, e3, e5⟩
    rw [hb.cell]
    refine hx i _ ?_
    rw [← e1]
    simp [h1, hi]
theorem Sl.of_own {w : World} {u : Value} {x : List UInt8} (h : Own w 5 1 u x.length (byteVals x)) : Sl w u x := by
  obtain ⟨A, c, hv, h1, h2⟩ := h.shape
  refine ⟨A, c, hv, h1, h2, ?_, ?_⟩
  · rw [hv] at h; exact Src.of_own h
  · rintro rfl
    rcases h.2 with ⟨e, _⟩ | ⟨g, o, cap, cur, e, _⟩
    · rw [hv] at e; simp at e; omega
    · rw [hv] at e; simp at e
theorem run_grow0 (k : Nat) (h0 : 0 < k) (hk : k ≤ 1000000) (w : World) : ∃ C w', k ≤ C ∧ C ≤ maxLen ∧ (∀ ty, (Builtin.append_ #[22, 3] ty #[.slice none 0 0, .int .i64 (k : Int)]).run Try.prog w = .ok (.slice (some ⟨w.heap.size, 0, none⟩) k C) w') ∧ (∃ Z, Blk w' w.heap.size 5 Z ∧ Z.size = C) ∧ Below w.heap.size w w' := by
  obtain ⟨i0, hi0, hz0, hz1, hz2⟩ := info_parts info5
  have hns : Builtin.nextslicecap (0 + k) 0 = k := by unfold Builtin.nextslicecap; rw [if_pos (by omega)]; omega
  have hap := fun ty => Go.Lib.run_append_grow_zeros (P := Try.prog) w 22 3 ty 5 i0 (.int .u8 0) .i64 .i64 Try.underlying22 Try.underlying3 hi0 hz0 none 0 0 [] (by rw [hz1]; simp [Builtin.firstCells]) k h0 (by omega) (by omega) (by omega) (by rw [hz2]; omega) (by rw [hz2, hns]; omega)
  have hge := grownCap_ge w (0 + k) 0 5
  have hle := grownCap_le_maxLen w (0 + k) 0 5 (by unfold maxLen; omega)
  rw [Nat.zero_add] at hge
  simp only [Nat.zero_add] at hap
  rw [Nat.zero_add] at hle
  refine ⟨_, _, hge, hle, hap, ⟨_, Blk.new w.drew 5 _, ?_⟩, (Below.refl _ w).drew.alloc (Nat.le_refl _) _⟩
  simp [size_zeroCells, Value.cells]; omega
theorem wpList_grow0 {ops : Array Oper} {rest : List Oper} {o : Oper} {a : Act} {w : World} {Q : Exit → Act → World → Prop} (hgd : o.guard = none) (sx x : Operand)
    (ho : o.op = .call { callee := .builtin .append, args := #[sx, x], argTypes := #[22, 3] }) (hs : a.eval sx = .slice none 0 0) (k : Nat) (hx : a.eval x = .int .i64 (k : Int)) (h0 : 0 < k) (hk : k ≤ 1000000)
    (h : ∀ C w', k ≤ C → C ≤ maxLen → (∃ Z, Blk w' w.heap.size 5 Z ∧ Z.size = C) → Below w.heap.size w w' → wpList Try.prog ops Q rest (a.put o.dst (.slice (some ⟨w.heap.size, 0, none⟩) k C)) w') : wpList Try.prog ops Q (o :: rest) a w :=
  wpList_plain hgd fun _ hK => by
    obtain ⟨C, w', h1, h2, hrun, h3, h4⟩ := run_grow0 k h0 hk w
    unfold Oper.wp execOp
    simp only [ho, resolve, invoke, builtin, Sem.run_bind, Sem.run_pure, Result.andThen_ok, List.map_toArray, List.map_cons, List.map_nil, hs, hx, hrun]
    exact hK _ _ (h C w' h1 h2 h3 h4)
set_option maxRecDepth 100000 in
set_option maxHeartbeats 1000000 in
theorem grow_nil (k : Nat) (h0 : 0 < k) (hk : k ≤ 1000000) (w : World) : Calls Try.prog 94 #[.slice none 0 0, .int .i64 (k : Int)] w fun e w' => ∃ v, e = .returned v ∧ Own w' 5 1 v 0 [] ∧ (∀ j, rowOf v j → w.heap.size ≤ j) ∧ Below w.heap.size w w' := by
  have hk0 : (0 : Int) < (k : Int) := by omega
  have hd : decide ((0 : Int) < (k : Int)) = true := decide_eq_true hk0
  have hd2 : decide (0 < k) = true := decide_eq_true h0
  have hd3 : decide ((k : Int) < 0) = false := decide_eq_false (by omega)
  have hk6 : (k : Int) ≤ 1000000 := by omega
  go_enter Try.func94, Try.ntmps94
  go_wp2_with (first
    | (at_builtin
       refine wpList_grow0 rfl (.tmp 20) (.tmp 21) rfl (by rfl) k (by rfl) h0 hk ?_
       intro C w2 hC1 hC2 hZ hb2
       simp only [Act.put, List.setIfInBounds_toArray, List.set_cons_zero, List.set_cons_succ])
    | fail)
  go_ret
  obtain ⟨Z, hZ1, hZ2⟩ := hZ
  exact ⟨_, rfl, ⟨rfl, .inr ⟨w.heap.size, 0, C, Z, rfl, hZ1, by omega, hC2, by omega, fun j u hj => by simp at hj⟩⟩, fun j hj => by cases hj; exact Nat.le_refl _, hb2⟩
theorem flat_snoc (l : List (List UInt8)) (i : Nat) (h : i < l.length) : (l.take (i + 1)).flatten = (l.take i).flatten ++ l.getD i [] := by
  rw [List.take_succ_eq_append_getElem h, List.flatten_append]; simp [h]
theorem flat_le (l : List (List UInt8)) (i : Nat) : (l.take i).flatten.length ≤ l.flatten.length := by
  have h : l.flatten = (l.take i).flatten ++ (l.drop i).flatten := by rw [← List.flatten_append, List.take_append_drop]
  rw [h, List.length_append]; omega
set_option maxRecDepth 100000 in
set_option maxHeartbeats 2000000 in
theorem concat_any (l : List (List UInt8)) (v : Value) (w : World) (h : Ls w v l) (h0 : 0 < l.flatten.length) (hk : l.flatten.length ≤ 1000000) (hn : l.length ≤ 1000) :
    Calls Try.prog 80 #[v] w fun e w' => ∃ v', e = .returned v' ∧ Own w' 5 1 v' l.flatten.length (byteVals l.flatten) ∧ (∀ j, rowOf v' j → w.heap.size ≤ j) ∧ Below w.heap.size w w' := by
  obtain ⟨i0, hi0, hz0, hz1, hz2⟩ := info_parts info5
  obtain ⟨A, cap, hv, hc1, hc2⟩ := h.shape
  obtain ⟨n, hnn⟩ : ∃ n, n = l.length := ⟨_, rfl⟩
  rw [← hnn] at hv hc1 hn
  obtain ⟨S, hS⟩ : ∃ S, S = l.flatten.length := ⟨_, rfl⟩
  rw [← hS] at h0 hk ⊢
  have H := Lib.hid h
  have HN := Lib.hid hnn
  have HSS := Lib.hid hS
  subst hv
  clear h hnn hS
  go_enter Try.func80, Try.ntmps80
  go_wp2_with fail
  go_loopw [3, 11] (fun c3 c11 wr => ∃ (i s : Nat), i ≤ n ∧ c11 = .int .i64 (i : Int) ∧ c3 = .int .i64 (s : Int) ∧ s = (l.take i).flatten.length ∧ wr = w) (fun _ c11 _ => n - (intOf c11).toNat)
  case atStart => exact ⟨0, 0, by omega, rfl, rfl, rfl, rfl⟩
  case round =>
    obtain ⟨i, s, hi, rfl, rfl, hs, rfl⟩ := hrel
    by_cases hin : i < n
    · have hd : decide ((i : Int) < (n : Int)) = true := decide_eq_true (by omega)
      obtain ⟨g, o, cp, B, c, hvv, hg, hcell, -, -, -, -⟩ := H.out.at_ i (by rw [← HN.out]; exact hin)
      simp only [Value.slice.injEq] at hvv
      obtain ⟨rfl, -, rfl⟩ := hvv
      have hf := congrArg List.length (flat_snoc l i (by rw [← HN.out]; exact hin))
      rw [List.length_append, ← hs] at hf
      have hfl := flat_le l (i + 1)
      rw [hf, ← HSS.out] at hfl
      obtain ⟨m, hm⟩ : ∃ m, m = (l.getD i []).length := ⟨_, rfl⟩
      rw [← hm] at hf hcell hfl
      have HF := Lib.hid hf
      have hneg : decide ((s : Int) + (m : Int) < 0) = false := decide_eq_false (by omega)
      have hi0' : (0 : Int) ≤ (i : Int) := by omega
      have hsm : (s : Int) + (m : Int) ≤ 1000000 := by omega
      clear hs hm hf
      go_wp2_with fail
      go_roundw
      case rel => exact ⟨i + 1, s + m, by omega, by go_num, by go_num, by rw [HF.out], trivial⟩
      case measure => simp [intOf]; omega
    · obtain rfl : i = n := by omega
      have hd : decide ((i : Int) < (i : Int)) = false := decide_eq_false (by omega)
      rw [List.take_of_length_le (by rw [← HN.out]; omega)] at hs
      rw [← HSS.out] at hs
      subst hs
      have HG := Lib.hid (grow_nil s h0 hk wr)
      go_wp2_with (first
        | (go_at_call 94
           refine HG.out.mono ?_
           rintro e w2 ⟨v2, rfl, hown, hrow, hb2⟩
           obtain ⟨A2, c2, hv2, -, -⟩ := hown.shape
           subst hv2)
        | fail)
      obtain ⟨wT, rfl⟩ : ∃ wT : World, wT = w2 := ⟨_, rfl⟩
      have H2 := Lib.hid (H.out.keep hb2)
      go_loopw [6, 27] (fun c6 c27 wx => ∃ k : Nat, k ≤ i ∧ c27 = .int .i64 (k : Int) ∧ Own wx 5 1 c6 (l.take k).flatten.length (byteVals (l.take k).flatten) ∧ (∀ j, rowOf c6 j → wr.heap.size ≤ j) ∧ Below wr.heap.size wr wx) (fun _ c27 _ => i - (intOf c27).toNat)
      case atStart => exact ⟨0, by omega, rfl, hown, hrow, hb2⟩
      case round =>
        obtain ⟨k, hk2, rfl, hO, hR, hB⟩ := hrel
        have HO := Lib.hid hO
        have HR := Lib.hid hR
        have HB := Lib.hid hB
        by_cases hki : k < i
        · have hd : decide ((k : Int) < (i : Int)) = true := decide_eq_true (by omega)
          obtain ⟨g, o, cp, B, c, hvv, hg, hcell, hby, -, -, -⟩ := H.out.at_ k (by rw [← HN.out]; exact hki)
          simp only [Value.slice.injEq] at hvv
          obtain ⟨rfl, -, rfl⟩ := hvv
          have hcx := (hB.cell (p := ⟨g, o + k, none⟩) hg).trans hcell
          have hbyx := hby.keep hB
          have hfs := flat_snoc l k (by rw [← HN.out]; exact hki)
          have hfl := flat_le l (k + 1)
          rw [hfs, List.length_append, ← HSS.out] at hfl
          have hk0' : (0 : Int) ≤ (k : Int) := by omega
          obtain ⟨x, hx⟩ : ∃ x, x = l.getD k [] := ⟨_, rfl⟩
          rw [← hx] at hcx hbyx hfs hfl
          obtain ⟨y, hy⟩ : ∃ y, y = (l.take k).flatten := ⟨_, rfl⟩
          rw [← hy] at HO hfs hfl
          have HFS := Lib.hid hfs
          have HBY := Lib.hid hbyx
          clear hx hy hfs hbyx hby hcell hO hR hB
          go_wp2_with (first
            | (at_builtin
               refine wpList_append_o _ rfl (.tmp 31) (.tmp 32) 22 rfl 5 i0 (.int .u8 0) 1 1 Try.underlying22 hi0 hz0 hz1 hz2 (by rfl) (by omega) u6 y.length (byteVals y) (by rfl) HO.out B x.length c (byteVals x) (by rfl) HBY.out (byteVals_one _) (by simp only [maxLen]; omega) (by omega) ?_
               intro v5 w5 hown5 hf5 hr5
               simp only [Act.put, List.setIfInBounds_toArray, List.set_cons_zero, List.set_cons_succ])
            | fail)
          go_roundw
          case rel =>
            refine ⟨k + 1, by omega, by go_num, ?_, fun j hj => (hr5 j hj).elim (HR.out j) (fun h => Nat.le_trans HB.out.size h), HB.out.trans (hf5.below HB.out.size HR.out)⟩
            rw [HFS.out, List.length_append, byteVals_append]
            exact hown5
          case measure => simp [intOf]; omega
        · obtain rfl : k = i := by omega
          have hd : decide ((k : Int) < (k : Int)) = false := decide_eq_false (by omega)
          rw [List.take_of_length_le (by rw [← HN.out]; omega)] at HO
          go_wp2_with fail
          go_ret
          exact ⟨_, rfl, by rw [HSS.out]; exact HO.out, HR.out, HB.out⟩
/-- The record of bytes. -/
def recB (x : List UInt8) : List UInt8 := [UInt8.ofNat (x.length % 256), UInt8.ofNat (x.length / 256)] ++ (sha x).take 4 ++ x
theorem length_recB (x : List UInt8) : (recB x).length = 6 + x.length := by unfold recB; simp [length_sha]; omega
theorem record_long (x : List UInt8) (A : Option Addr) (c : Nat) (w : World) (hl : 4000 < x.length) (hl2 : x.length ≤ maxLen) : Calls Try.prog 48 #[.slice A x.length c] w fun e w' => e = .returned (.tuple #[.slice none 0 0, .int .i64 4]) ∧ w = w' := by
  obtain ⟨n, hn⟩ : ∃ n, n = x.length := ⟨_, rfl⟩
  rw [← hn] at hl hl2 ⊢
  unfold maxLen at hl2
  have hd : decide ((4000 : Int) < (n : Int)) = true := decide_eq_true (by omega)
  have hd2 : decide (4000 < n) = true := decide_eq_true (by omega)
  clear hn
  go_enter Try.func48, Try.ntmps48
  go_wp2_with fail
  go_ret2
  exact ⟨rfl, rfl⟩
set_option maxRecDepth 100000 in
set_option maxHeartbeats 2000000 in
theorem record_any (x : List UInt8) (A : Option Addr) (c : Nat) (w : World) (hl : x.length ≤ 4000) (hc : x.length ≤ c) (hcm : c ≤ maxLen) (hx : Bytes w A x) (hA : A = none → c = 0) :
    Calls Try.prog 48 #[.slice A x.length c] w fun e w' => ∃ v, e = .returned (.tuple #[v, .int .i64 0]) ∧ Own w' 5 1 v (recB x).length (byteVals (recB x)) ∧ (∀ j, rowOf v j → w.heap.size ≤ j) ∧ Below w.heap.size w w' := by
  have HOF := Lib.hid (of_any x A x.length c w rfl hx (by omega))
  have HX := Lib.hid hx
  obtain ⟨n, hn⟩ : ∃ n, n = x.length := ⟨_, rfl⟩
  rw [← hn] at hl hc HOF ⊢
  have HN := Lib.hid hn
  have hd : decide ((4000 : Int) < (n : Int)) = false := decide_eq_false (by omega)
  have hd2 : decide (4000 < n) = false := decide_eq_false (by omega)
  clear hn hx
  go_enter Try.func48, Try.ntmps48
  go_wp2_with (first
    | (with_reducible refine wpList_alloc_run rfl 25 rfl zeroOut alloc25 ?_)
    | (go_at_call 23
       refine HOF.out.mono ?_
       rintro e w2 ⟨rfl, hb2⟩
       have hf2 : Fr nob w w2 := Fr.of_below hb2 nob)
    | (refine wpList_store_blk rfl 25 (.tmp 4) (.tmp 9) rfl w2.heap.size 25 zeroOut (shaV x) rfl rfl (Blk.new w2 25 zeroOut) (zero_shaV _) (info_shaV _) (one_shaV _) ?_
       intro w3 hb3 hf3
       simp only [Act.put, List.setIfInBounds_toArray, List.set_cons_zero, List.set_cons_succ])
    | fail)
  have hB3 : Below w.heap.size w w3 := ((hf2.alloc (.cells zeroOut 25)).then hf3 (fun i hi => Or.inr (by have := hf2.size; unfold one at hi; omega)) : Fr nob w w3).below_nob
  obtain ⟨b0, hb0⟩ : ∃ b0, b0 = UInt8.ofNat (n % 256) := ⟨_, rfl⟩
  obtain ⟨b1, hb1⟩ : ∃ b1, b1 = UInt8.ofNat (n / 256) := ⟨_, rfl⟩
  have e0 : ((n : Int) % 256) = n8 b0 := by
    rw [hb0]; unfold n8; rw [UInt8.toNat_ofNat_of_lt' (by show _ < 256; omega)]; omega
  have e1 : ((n : Int) / 256) = n8 b1 := by
    rw [hb1]; unfold n8; rw [UInt8.toNat_ofNat_of_lt' (by show _ < 256; omega)]; omega
  rw [e0, e1]
  obtain ⟨wA, hwA⟩ : ∃ wA, wA = w3.alloc (.cells #[Value.int IntKind.u8 (n8 b0), Value.int IntKind.u8 (n8 b1)] 5) := ⟨_, rfl⟩
  rw [← hwA]
  have hAs : wA.heap.size = w3.heap.size + 1 := by rw [hwA]; simp
  have hBA : Below w3.heap.size w3 wA := by rw [hwA]; exact (Below.refl _ w3).alloc (Nat.le_refl _) _
  have hy1 : Bytes wA (some ⟨w3.heap.size, 0, none⟩) [b0, b1] := by rw [hwA]; exact bytes_src (w := w3) (t := 5) [b0, b1]
  have hy2 : Bytes wA (some ⟨w2.heap.size, 0, none⟩) ((sha x).take 4) := ((bytes_shaV hb3).keep hBA).take 4
  have hy3 : Bytes wA A x := (HX.out.keep hB3).keep hBA
  have hBw : Below w.heap.size w wA := hB3.trans (hBA.mono hB3.size)
  obtain ⟨us, hus⟩ : ∃ us : List Value, us = [Value.slice (some { block := w3.heap.size, off := 0 }) 2 2, Value.slice (some { block := w2.heap.size, off := 0 }) 4 32, Value.slice A n c] := ⟨_, rfl⟩
  have hown : Own (wA.alloc (.cells #[Value.slice (some { block := w3.heap.size, off := 0 }) 2 2, Value.slice (some { block := w2.heap.size, off := 0 }) 4 32, Value.slice A n c] 22)) 22 1 (.slice (some ⟨w3.heap.size + 1, 0, none⟩) 3 3) 3 us := by
    rw [← hAs]
    refine ⟨by rw [hus]; rfl, .inr ⟨wA.heap.size, 0, 3, _, rfl, Blk.new wA 22 _, by omega, by unfold maxLen; omega, by simp, fun j u hj => ?_⟩⟩
    rw [hus] at hj
    rw [Nat.zero_add]; simpa using hj
  have hBB : Below w.heap.size w (wA.alloc (.cells #[Value.slice (some { block := w3.heap.size, off := 0 }) 2 2, Value.slice (some { block := w2.heap.size, off := 0 }) 4 32, Value.slice A n c] 22)) := hBw.alloc hBw.size _
  obtain ⟨wB, hwB⟩ : ∃ wB, wB = wA.alloc (.cells #[Value.slice (some { block := w3.heap.size, off := 0 }) 2 2, Value.slice (some { block := w2.heap.size, off := 0 }) 4 32, Value.slice A n c] 22) := ⟨_, rfl⟩
  have hBAB : Below wA.heap.size wA wB := by rw [hwB]; exact (Below.refl _ wA).alloc (Nat.le_refl _) _
  rw [← hwB] at hown hBB ⊢
  have ht4 : ((sha x).take 4).length = 4 := by rw [List.length_take, length_sha]; rfl
  have hls : Ls wB (.slice (some ⟨w3.heap.size + 1, 0, none⟩) 3 3) [[b0, b1], (sha x).take 4, x] := by
    refine ⟨us, by rw [hus]; rfl, hown, fun i hi => ?_⟩
    match i, hi with
    | 0, _ => exact ⟨_, 2, by rw [hus]; rfl, by simp, by unfold maxLen; omega, hy1.keep hBAB, fun h => by cases h⟩
    | 1, _ => exact ⟨some ⟨w2.heap.size, 0, none⟩, 32, by rw [hus]; show _ = Value.slice _ ((sha x).take 4).length _; rw [ht4]; rfl, by show ((sha x).take 4).length ≤ 32; omega, by unfold maxLen; omega, hy2.keep hBAB, fun h => by cases h⟩
    | 2, _ => exact ⟨A, c, by rw [hus]; show _ = Value.slice _ x.length _; rw [← HN.out]; rfl, by show x.length ≤ c; rw [← HN.out]; exact hc, hcm, hy3.keep hBAB, hA⟩
    | i + 3, h => exact absurd h (by simp only [List.length_cons, List.length_nil]; omega)
  have hfl : [[b0, b1], (sha x).take 4, x].flatten = recB x := by
    unfold recB
    rw [← HN.out, ← hb0, ← hb1]
    simp
  have HC := concat_any _ _ wB hls (by rw [hfl, length_recB]; omega) (by rw [hfl, length_recB, ← HN.out]; omega) (by simp)
  rw [hfl] at HC
  have HCC := Lib.hid HC
  have HBB := Lib.hid hBB
  clear HC hls hfl hown hus hBAB hwB hBB hwA hAs hBA hy1 hy2 hy3 hBw e0 e1 hb0 hb1 hB3 hb3 hf3 hf2 hb2
  refine HCC.out.mono ?_
  rintro e w5 ⟨v5, rfl, h5, hr5, hb5⟩
  obtain ⟨A5, c5, hv5, -, -⟩ := h5.shape
  subst hv5
  go_wp2_with fail
  go_ret2
  exact ⟨_, rfl, h5, fun j hj => Nat.le_trans HBB.out.size (hr5 j hj), HBB.out.trans (hb5.mono HBB.out.size)⟩
end Go.Proofs.Ytnlkjhhocehhaaa
