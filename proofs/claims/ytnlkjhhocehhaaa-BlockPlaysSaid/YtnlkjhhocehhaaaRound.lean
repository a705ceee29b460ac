/- The contract of (digest.Sum).round: a block of 64 bytes is mixed in. -/
import Derived.Test.YtnlkjhhocehhaaaKeys
import Derived.StillTailTactics
import Derived.BigRegion
namespace Go.Proofs.Ytnlkjhhocehhaaa
set_option linter.unusedVariables false
open Go Go.RowKit Go.Proofs Sha
def sumCells (s : St) (v : Value) (n : Nat) : Array Value := #[v32 s.a, v32 s.b, v32 s.c, v32 s.d, v32 s.e, v32 s.f, v32 s.g, v32 s.h, v, .int .i64 n]
def stCells (s : St) : Array Value := #[.int .u32 (n32 s.a), .int .u32 (n32 s.b), .int .u32 (n32 s.c), .int .u32 (n32 s.d), .int .u32 (n32 s.e), .int .u32 (n32 s.f), .int .u32 (n32 s.g), .int .u32 (n32 s.h)]
def midCells (s S : St) (v : Value) (n k : Nat) : Array Value := (((List.range 8).map fun j => v32 (if j < k then s.list.getD j 0 + S.list.getD j 0 else s.list.getD j 0)) ++ [v, .int .i64 n]).toArray
theorem mid_zero (s S : St) (v : Value) (n : Nat) : midCells s S v n 0 = sumCells s v n := rfl
theorem mid_end (s S : St) (v : Value) (n : Nat) : midCells s S v n 8 = sumCells (s.add S) v n := rfl
theorem mid_at (s S : St) (v : Value) (n k : Nat) (h : k < 8) : (midCells s S v n k)[k]? = some (.int .u32 (n32 (s.list.getD k 0))) := by
  simp [midCells, List.getElem?_append, h, v32]
theorem mid_set (s S : St) (v : Value) (n k : Nat) (h : k < 8) : (midCells s S v n k).setIfInBounds k (.int .u32 (n32 (s.list.getD k 0 + S.list.getD k 0))) = midCells s S v n (k + 1) := by
  match k, h with
  | 0, _ | 1, _ | 2, _ | 3, _ | 4, _ | 5, _ | 6, _ | 7, _ => rfl
theorem stCells_at (S : St) (k : Nat) (h : k < 8) : (stCells S)[k]? = some (.int .u32 (n32 (S.list.getD k 0))) := by
  match k, h with
  | 0, _ | 1, _ | 2, _ | 3, _ | 4, _ | 5, _ | 6, _ | 7, _ => rfl
def wCells (l : List UInt32) : Array Value := (l.map v32).toArray
set_option maxRecDepth 100000 in
set_option maxHeartbeats 2000000 in
theorem round_any (g : Nat) (s : St) (v : Value) (n : Nat) (bg bo c : Nat) (b : List UInt8) (w : World) (hg : Blk w g 101 (sumCells s v n)) (hl : b.length = 64)
    (hbl : bg < w.heap.size) (hb : ∀ j, j < 64 → w.cell? ⟨bg, bo + j, none⟩ = some (.int .u8 (n8 (b.getD j 0)))) :
    Calls Try.prog 73 #[.pointer (some ⟨g, 0, none⟩), .slice (some ⟨bg, bo, none⟩) 64 c] w fun e w' => e = .returned (.tuple #[]) ∧ Blk w' g 101 (sumCells (compress s b) v n) ∧ Fr (one g) w w' := by
  go_enter Try.func73, Try.ntmps73
  go_wp2_with (first
    | (with_reducible refine wpList_alloc_run rfl 96 rfl zero64 alloc96 ?_))
  go_loopw [17] (fun i wr => ∃ k : Nat, k ≤ 16 ∧ i = .int .i64 k ∧ Blk wr w.heap.size 96 (wCells (fillW b k)) ∧ Fr nob w wr) (fun i _ => 16 - (intOf i).toNat)
  case atStart => exact ⟨0, by omega, rfl, Blk.new w 96 zero64, (Fr.refl _ _).alloc _⟩
  case round =>
    obtain ⟨k, hk, rfl, hW, hF⟩ := hrel
    by_cases hlt : k < 16
    · have hbw : bg < wr.heap.size := Nat.lt_of_lt_of_le hbl hF.size
      have ec : ∀ j, j < 64 → wr.cell? ⟨bg, bo + j, none⟩ = some (.int .u8 (n8 (b.getD j 0))) := fun j hj => (hF.cell hbl id).trans (hb j hj)
      have e0 := ec (4 * k) (by omega)
      have e1 := ec (4 * k + 1) (by omega)
      have e2 := ec (4 * k + 2) (by omega)
      have e3 := ec (4 * k + 3) (by omega)
      clear ec
      go_wp2_with fail
      refine wp_region_pre 35 0 (by kernel_rfl) (by kernel_rfl) rfl ?_
      simp only [List.take_succ_cons, List.take_zero, List.drop_succ_cons, List.drop_zero]
      repeat (go_big_quiet_step (fail))
      refine wpQuiet_nil ?_
      intro w1 hb1
      have hW1 := hW.below hb1 hW.lt
      have c1 : w1.cell? ⟨w.heap.size, k, none⟩ = some (v32 0) := by rw [hW1.cell]; simp [wCells, fillW, List.getElem?_append, List.getElem?_replicate]; omega
      have c2 := hW1.frozen k
      go_wp2_with fail
      go_roundw
      case rel =>
        refine ⟨k + 1, by omega, by go_num, ?_, ?_⟩
        · have h := hW1.set_ k (v32 (word b k))
          simp only [wCells, List.setIfInBounds_toArray, ← List.map_set, fillW_succ b k (by omega : k < 64)] at h
          exact h
        · exact (hF.then (Fr.of_below hb1 nob) (fun _ h => h.elim)).setCell (.inr (Nat.le_refl _)) _
      case measure => simp [intOf]; omega
    · have hk16 : k = 16 := by omega
      subst hk16
      go_wp2_with fail
      have hgl : Blk ((wr.alloc (.cells #[.int .i64 7, .int .i64 18, .int .i64 0, .int .i64 3] 126)).alloc (.cells #[.int .i64 17, .int .i64 19, .int .i64 0, .int .i64 10] 126)) wr.heap.size 126 #[.int .i64 7, .int .i64 18, .int .i64 0, .int .i64 3] := (Blk.new _ _ _).alloc _
      have hgh : Blk ((wr.alloc (.cells #[.int .i64 7, .int .i64 18, .int .i64 0, .int .i64 3] 126)).alloc (.cells #[.int .i64 17, .int .i64 19, .int .i64 0, .int .i64 10] 126)) (wr.heap.size + 1) 126 #[.int .i64 17, .int .i64 19, .int .i64 0, .int .i64 10] := by
        have := Blk.new (wr.alloc (.cells #[.int .i64 7, .int .i64 18, .int .i64 0, .int .i64 3] 126)) 126 #[.int .i64 17, .int .i64 19, .int .i64 0, .int .i64 10]
        simpa using this
      have hgW := (hW.alloc (.cells #[.int .i64 7, .int .i64 18, .int .i64 0, .int .i64 3] 126)).alloc (.cells #[.int .i64 17, .int .i64 19, .int .i64 0, .int .i64 10] 126)
      have hgF := (hF.alloc (.cells #[.int .i64 7, .int .i64 18, .int .i64 0, .int .i64 3] 126)).alloc (.cells #[.int .i64 17, .int .i64 19, .int .i64 0, .int .i64 10] 126)
      have hgs : w.heap.size < wr.heap.size := hW.lt
      obtain ⟨wo, rfl⟩ : ∃ wo : World, wo = wr := ⟨_, rfl⟩
      obtain ⟨gl, hgl'⟩ : ∃ gl, gl = wo.heap.size := ⟨_, rfl⟩
      rw [← hgl'] at hgl hgh hgs ⊢
      clear hgl' hW hF
      go_loopw [8] (fun c8 wq => ∃ i : Nat, 16 ≤ i ∧ i ≤ 64 ∧ c8 = .int .i64 i ∧ Blk wq w.heap.size 96 (wCells (schedN (fillW b 16) (i - 16))) ∧ Blk wq gl 126 #[.int .i64 7, .int .i64 18, .int .i64 0, .int .i64 3] ∧ Blk wq (gl + 1) 126 #[.int .i64 17, .int .i64 19, .int .i64 0, .int .i64 10] ∧ Fr nob w wq) (fun c8 _ => 64 - (intOf c8).toNat)
      case atStart => exact ⟨16, by omega, by omega, rfl, hgW, hgl, hgh, hgF⟩
      case round =>
        obtain ⟨i, hi1, hi2, rfl, qW, ql, qh, qF⟩ := hrel
        by_cases hlt : i < 64
        · obtain ⟨L, hL, HL⟩ : ∃ L : List UInt32, L.length = 64 ∧ Hid (L = schedN (fillW b 16) (i - 16)) := ⟨_, length_schedN _ (length_fillW _ _ (by omega)) _, rfl⟩
          rw [← HL.out] at qW
          have cw : ∀ j, j < 64 → wr.cell? ⟨w.heap.size, j, none⟩ = some (.int .u32 (n32 (L.getD j 0))) := fun j hj => by
            rw [qW.cell]; simp [wCells, v32, List.getElem?_eq_getElem (show j < L.length by omega)]
          have c16 := cw (i - 16) (by omega)
          have c15 := cw (i - 15) (by omega)
          have c7 := cw (i - 7) (by omega)
          have c2 := cw (i - 2) (by omega)
          have l0 := ql.cell 0
          have l1 := ql.cell 1
          have l2 := ql.cell 2
          have l3 := ql.cell 3
          have h0 := qh.cell 0
          have h1 := qh.cell 1
          have h2 := qh.cell 2
          have h3 := qh.cell 3
          simp at l0 l1 l2 l3 h0 h1 h2 h3
          have s1 := qW.lt
          have s2 := ql.lt
          have s3 := qh.lt
          clear cw
          go_wp2_with fail
          refine wp_region_pre 25 0 (by kernel_rfl) (by kernel_rfl) rfl ?_
          simp only [List.take_succ_cons, List.take_zero, List.drop_succ_cons, List.drop_zero]
          repeat (go_big_quiet_step (((go_at_call 89; with_reducible first | exact regrown_below (mixLow _ _) | exact regrown_below (mixHigh _ _)))))
          refine wpQuiet_nil ?_
          intro w1 hb1
          have hW1 := qW.below hb1 qW.lt
          have d1 : w1.cell? ⟨w.heap.size, i, none⟩ = some (.int .u32 (n32 (L.getD i 0))) := by
            rw [hW1.cell]; simp [wCells, v32, List.getElem?_eq_getElem (show i < L.length by omega)]
          have d2 := hW1.frozen i
          go_wp2_with fail
          go_roundw
          case rel =>
            refine ⟨i + 1, by omega, by omega, by go_num, ?_, ?_, ?_, ?_⟩
            · have h := hW1.set_ i (v32 (nextW L i))
              simp only [wCells, List.setIfInBounds_toArray, ← List.map_set] at h
              have e : schedN (fillW b 16) (i + 1 - 16) = L.set i (nextW L i) := by
                rw [show i + 1 - 16 = (i - 16) + 1 by omega, schedN, ← HL.out, show 16 + (i - 16) = i by omega]
              rw [e]
              exact h
            · exact (ql.below hb1 ql.lt).far' (by omega) _
            · exact (qh.below hb1 qh.lt).far' (by omega) _
            · exact (qF.then (Fr.of_below hb1 nob) (fun _ h => h.elim)).setCell (.inr (Nat.le_refl _)) _
          case measure => simp [intOf]; omega
        · obtain rfl : i = 64 := by omega
          clear hgW hgl hgh hgF
          obtain ⟨wa, rfl⟩ : ∃ wa : World, wa = wr := ⟨_, rfl⟩
          have hgq := hg.fr qF id
          have g0 := hgq.cell 0
          have g1 := hgq.cell 1
          have g2 := hgq.cell 2
          have g3 := hgq.cell 3
          have g4 := hgq.cell 4
          have g5 := hgq.cell 5
          have g6 := hgq.cell 6
          have g7 := hgq.cell 7
          simp [sumCells, v32] at g0 g1 g2 g3 g4 g5 g6 g7
          have sg := hgq.lt
          have sg1 : g < wa.heap.size + 1 := by omega
          have hw64 : schedN (fillW b 16) (64 - 16) = sched b := rfl
          rw [hw64] at qW
          clear hw64
          go_wp2_with (first | (go_at_call 90; refine (keys_any _).mono ?_; rintro e w2 ⟨rfl, hb2⟩))
          have kW : Blk w2 w.heap.size 96 (wCells (sched b)) := (((qW.alloc _).alloc _).alloc _).below hb2 (by simp; have := qW.lt; omega)
          have kg : Blk w2 g 101 (sumCells s v n) := (((hgq.alloc _).alloc _).alloc _).below hb2 (by simp; omega)
          have kb : Blk w2 wa.heap.size 126 #[.int .i64 6, .int .i64 11, .int .i64 25, .int .i64 0] := (((Blk.new wa _ _).alloc _).alloc _).below hb2 (by simp; omega)
          have ks : Blk w2 (wa.heap.size + 1) 126 #[.int .i64 2, .int .i64 13, .int .i64 22, .int .i64 0] := by
            have h := ((Blk.new (wa.alloc (.cells #[.int .i64 6, .int .i64 11, .int .i64 25, .int .i64 0] 126)) 126 #[.int .i64 2, .int .i64 13, .int .i64 22, .int .i64 0]).alloc _).below hb2 (by simp)
            simpa using h
          have kv : Blk w2 (wa.heap.size + 1 + 1) 94 (stCells s) := by
            have h := (Blk.new ((wa.alloc (.cells #[.int .i64 6, .int .i64 11, .int .i64 25, .int .i64 0] 126)).alloc (.cells #[.int .i64 2, .int .i64 13, .int .i64 22, .int .i64 0] 126)) 94 (stCells s)).below hb2 (by simp)
            simpa using h
          have kF : Fr nob w w2 := (((qF.alloc _).alloc _).alloc _).then (Fr.of_below hb2 nob) (fun _ h => h.elim)
          have hnb : w.heap.size < wa.heap.size := qW.lt
          obtain ⟨gb, hgb⟩ : ∃ gb, gb = wa.heap.size := ⟨_, rfl⟩
          rw [← hgb] at kb ks kv sg hnb ⊢
          have sgb : g < gb := sg
          clear hb2 hgb ql qh qF qW hgq g0 g1 g2 g3 g4 g5 g6 g7 sg sg1 hlt hk hi1 hi2
          go_loopw [94] (fun c wr => ∃ k : Nat, k ≤ 64 ∧ c = .int .i64 k ∧ Blk wr w.heap.size 96 (wCells (sched b)) ∧ Blk wr g 101 (sumCells s v n) ∧ Blk wr gb 126 #[.int .i64 6, .int .i64 11, .int .i64 25, .int .i64 0] ∧ Blk wr (gb + 1) 126 #[.int .i64 2, .int .i64 13, .int .i64 22, .int .i64 0] ∧ Blk wr (gb + 1 + 1) 94 (stCells (roundsN s (sched b) k)) ∧ Fr nob w wr) (fun c _ => 64 - (intOf c).toNat)
          case atStart => exact ⟨0, by omega, rfl, kW, kg, kb, ks, kv, kF⟩
          case round =>
            obtain ⟨k, hk, rfl, rW, rg, rb, rs, rv, rF⟩ := hrel
            by_cases hlt : k < 64
            · obtain ⟨S, HS⟩ : ∃ S : St, Hid (S = roundsN s (sched b) k) := ⟨_, rfl⟩
              rw [← HS.out] at rv
              obtain ⟨L, hL, HL⟩ : ∃ L : List UInt32, L.length = 64 ∧ Hid (L = sched b) := ⟨_, length_schedN _ (length_fillW _ _ (by omega)) _, rfl⟩
              rw [← HL.out] at rW
              have hix := key_index k hlt
              have cw : wr.cell? ⟨w.heap.size, k, none⟩ = some (.int .u32 (n32 (L.getD k 0))) := by
                rw [rW.cell]; simp [wCells, v32, List.getElem?_eq_getElem (show k < L.length by omega)]
              have t1 := rW.lt
              have t2 := rb.lt
              have t3 := rs.lt
              have t4 := rv.lt
              have b0 := rb.cell 0
              have b1 := rb.cell 1
              have b2 := rb.cell 2
              have b3 := rb.cell 3
              have v0 := rv.cell 0
              have v1 := rv.cell 1
              have v2 := rv.cell 2
              have v3 := rv.cell 3
              have v4 := rv.cell 4
              have v5 := rv.cell 5
              have v6 := rv.cell 6
              have v7 := rv.cell 7
              simp [stCells] at b0 b1 b2 b3 v0 v1 v2 v3 v4 v5 v6 v7
              go_wp2_with fail
              refine wp_region_quiet_below (by kernel_rfl) (by kernel_rfl) ?_
              repeat (go_big_quiet_step ((go_at_call 89; with_reducible exact regrown_below (mixBig _ _))))
              refine wpQuiet_nil ?_
              intro w1 hw1
              have hb1 := Re.below hw1
              clear hw1
              clear b0 b1 b2 b3 v0 v1 v2 v3 v4 v5 v6 v7 cw hix
              have rW1 := rW.below hb1 t1
              have rg1 := rg.below hb1 rg.lt
              have rb1 := rb.below hb1 t2
              have rs1 := rs.below hb1 t3
              have rv1 := rv.below hb1 t4
              have rF1 : Fr nob w w1 := rF.then (Fr.of_below hb1 nob) (fun _ h => h.elim)
              clear rW rg rb rs rv rF t1 t2 t3 t4 hb1
              obtain ⟨wb, rfl⟩ : ∃ wb : World, wb = w1 := ⟨_, rfl⟩
              generalize hT : S.h + mix3 6 11 25 S.e + (S.e &&& S.f ^^^ ~~~S.e &&& S.g) + K[k]?.getD 0 + L[k] = T
              have HT := Lib.hid hT
              clear hT
              have t3 := rs1.lt
              have t4 := rv1.lt
              have b0 := rs1.cell 0
              have b1 := rs1.cell 1
              have b2 := rs1.cell 2
              have b3 := rs1.cell 3
              have v0 := rv1.cell 0
              have v1 := rv1.cell 1
              have v2 := rv1.cell 2
              simp [stCells] at b0 b1 b2 b3 v0 v1 v2
              go_wp2_with fail
              refine wp_region_quiet_below (by kernel_rfl) (by kernel_rfl) ?_
              repeat (go_big_quiet_step ((go_at_call 89; with_reducible exact regrown_below (mixSmall _ _))))
              refine wpQuiet_nil ?_
              intro w1 hw1
              have hb1 := Re.below hw1
              clear hw1 b0 b1 b2 b3 v0 v1 v2
              have rW2 := rW1.below hb1 rW1.lt
              have rg2 := rg1.below hb1 rg1.lt
              have rb2 := rb1.below hb1 rb1.lt
              have rs2 := rs1.below hb1 t3
              have rv2 := rv1.below hb1 t4
              have rF2 : Fr nob w w1 := rF1.then (Fr.of_below hb1 nob) (fun _ h => h.elim)
              clear rW1 rg1 rb1 rs1 rv1 rF1 t3 t4 hb1
              obtain ⟨wc, rfl⟩ : ∃ wc : World, wc = w1 := ⟨_, rfl⟩
              generalize hU : mix3 2 13 22 S.a + (S.a &&& S.b ^^^ S.a &&& S.c ^^^ S.b &&& S.c) = U
              have HU := Lib.hid hU
              clear hU
              go_wp2_with fail
              refine wp_region_pre 2 0 (by kernel_rfl) (by kernel_rfl) rfl ?_
              simp only [List.take_succ_cons, List.take_zero, List.drop_succ_cons, List.drop_zero]
              repeat (go_big_quiet_step (fail))
              refine wpQuiet_nil ?_
              intro w1 hb1
              have rv3 := rv2.below hb1 rv2.lt
              refine wpList_copy_blk rfl (.tmp 146) (.tmp 147) 128 128 rfl 93 Try.underlying128 size93 (gb + 1 + 1) 1 7 7 (some ⟨gb + 1 + 1, 0, none⟩) 7 8 rfl rfl (stCells S) 94 rv3 [v32 S.a, v32 S.b, v32 S.c, v32 S.d, v32 S.e, v32 S.f, v32 S.g] rfl
                (fun _ => ⟨gb + 1 + 1, 0, rfl, fun j u hj => by
                  rw [rv3.cell, Nat.zero_add]
                  have hj7 : j < 7 := (List.getElem?_eq_some_iff.1 hj).1
                  rw [← hj]
                  match j, hj7 with
                  | 0, _ | 1, _ | 2, _ | 3, _ | 4, _ | 5, _ | 6, _ => rfl⟩)
                (by simp [stCells]) (by intro u hu; simp at hu; rcases hu with rfl | rfl | rfl | rfl | rfl | rfl | rfl <;> rfl) ?_
              intro w4 hv4 hf4
              have rW4 := (rW2.below hb1 rW2.lt).fr hf4 (by unfold one; omega)
              have rg4 := (rg2.below hb1 rg2.lt).fr hf4 (by unfold one; omega)
              have rb4 := (rb2.below hb1 rb2.lt).fr hf4 (by unfold one; omega)
              have rs4 := (rs2.below hb1 rs2.lt).fr hf4 (by unfold one; omega)
              have rF4 : Fr nob w w4 := (rF2.then (Fr.of_below hb1 nob) (fun _ h => h.elim)).then hf4 (fun i hi => .inr (by unfold one at hi; omega))
              have hv4' : Blk w4 (gb + 1 + 1) 94 (stCells ⟨S.a, S.a, S.b, S.c, S.d, S.e, S.f, S.g⟩) := by simpa [stCells, v32] using hv4
              clear hv4 hf4 hb1 rW2 rg2 rb2 rs2 rv2 rv3 rF2
              have v0 := hv4'.cell 0
              have v4 := hv4'.cell 4
              have f0 := hv4'.frozen 0
              have f4 := hv4'.frozen 4
              simp [stCells] at v0 v4
              go_wp2_with fail
              go_roundw
              case rel =>
                refine ⟨k + 1, by omega, by go_num, ?_, ?_, ?_, ?_, ?_, ?_⟩
                · rw [← HL.out]; exact (rW4.far' (by omega) _).far' (by omega) _
                · exact (rg4.far' (by omega) _).far' (by omega) _
                · exact (rb4.far' (by omega) _).far' (by omega) _
                · exact (rs4.far' (by omega) _).far' (by omega) _
                · have h := (hv4'.set_ 4 (.int .u32 (n32 (S.d + T)))).set_ 0 (.int .u32 (n32 (T + U)))
                  have e : roundsN s (sched b) (k + 1) = ⟨T + U, S.a, S.b, S.c, S.d + T, S.e, S.f, S.g⟩ := by
                    have hKk : K.getD k 0 = K[k]?.getD 0 := by simp
                    have hLk : L.getD k 0 = L[k] := by simp [List.getElem?_eq_getElem (show k < L.length by omega)]
                    rw [roundsN, ← HS.out, ← HL.out, Sha.step, Sha.tOf, Sha.uOf, hKk, hLk, HT.out, HU.out]
                  rw [e]
                  exact h
                · exact (rF4.setCell' (.inr (by omega)) _).setCell' (.inr (by omega)) _
              case measure => simp [intOf]; omega
            · obtain rfl : k = 64 := by omega
              obtain ⟨wd, rfl⟩ : ∃ wd : World, wd = wr := ⟨_, rfl⟩
              obtain ⟨S, HS⟩ : ∃ S : St, Hid (S = roundsN s (sched b) 64) := ⟨_, rfl⟩
              rw [← HS.out] at rv
              clear kW kg kb ks kv kF rW rb rs hg
              go_wp2_with fail
              have rF' : Fr (one g) w wd := rF.mono (fun _ _ h => h.elim)
              go_loopw [159] (fun c wr => ∃ k : Nat, k ≤ 8 ∧ c = .int .i64 k ∧ Blk wr g 101 (midCells s S v n k) ∧ Blk wr (gb + 1 + 1) 94 (stCells S) ∧ Fr (one g) w wr) (fun c _ => 8 - (intOf c).toNat)
              case atStart => exact ⟨0, by omega, rfl, rg, rv, rF'⟩
              case round =>
                obtain ⟨k, hk, rfl, qg, qv, qF⟩ := hrel
                by_cases hlt : k < 8
                · have q1 : wr.cell? ⟨g, k, none⟩ = some (.int .u32 (n32 (s.list.getD k 0))) := by rw [qg.cell, mid_at s S v n k hlt]
                  have q2 : wr.cell? ⟨gb + 1 + 1, k, none⟩ = some (.int .u32 (n32 (S.list.getD k 0))) := by rw [qv.cell, stCells_at S k hlt]
                  have t1 := qg.lt
                  have t2 := qv.lt
                  obtain ⟨x, hx⟩ : ∃ x, x = s.list.getD k 0 := ⟨_, rfl⟩
                  obtain ⟨y, hy⟩ : ∃ y, y = S.list.getD k 0 := ⟨_, rfl⟩
                  rw [← hx] at q1
                  rw [← hy] at q2
                  have Hx := Lib.hid hx
                  have Hy := Lib.hid hy
                  clear hx hy
                  go_wp2_with fail
                  refine wp_region_pre 13 0 (by kernel_rfl) (by kernel_rfl) rfl ?_
                  simp only [List.take_succ_cons, List.take_zero, List.drop_succ_cons, List.drop_zero]
                  repeat (go_big_quiet_step (fail))
                  refine wpQuiet_nil ?_
                  intro w1 hb1
                  have qg1 := qg.below hb1 t1
                  have d1 : w1.cell? ⟨g, k, none⟩ = some (.int .u32 (n32 x)) := by rw [qg1.cell, mid_at s S v n k hlt, Hx.out]
                  have d2 := qg1.frozen k
                  go_wp2_with fail
                  go_roundw
                  case rel =>
                    refine ⟨k + 1, by omega, by go_num, ?_, (qv.below hb1 t2).far' (by omega) _, (qF.then (Fr.of_below hb1 nob) (fun _ h => h.elim)).setCell' (.inl rfl) _⟩
                    have h := qg1.set_ k (.int .u32 (n32 (s.list.getD k 0 + S.list.getD k 0)))
                    rw [mid_set s S v n k hlt, ← Hx.out, ← Hy.out] at h
                    exact h
                  case measure => simp [intOf]; omega
                · obtain rfl : k = 8 := by omega
                  rw [mid_end, HS.out] at qg
                  go_wp2_with fail
                  go_end0
                  exact ⟨rfl, qg, qF⟩
end Go.Proofs.Ytnlkjhhocehhaaa
