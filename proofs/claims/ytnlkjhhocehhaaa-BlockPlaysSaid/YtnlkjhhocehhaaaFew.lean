/- few: the first writes, the first bytes of each. -/
import Derived.Test.YtnlkjhhocehhaaaLives
import Derived.Test.YtnlkjhhocehhaaaSame
namespace Go.Proofs.Ytnlkjhhocehhaaa
open Go Go.RowKit Go.Proofs Sha Go.BigFrame
set_option linter.unusedVariables false
def cutW (e : Wr) : Wr := ⟨e.room, e.A, e.c, e.x.take 5000⟩
def fewL (l : List Wr) : List Wr := (l.take 20).map cutW
theorem fewL_len (l : List Wr) : (fewL l).length = min 20 l.length := by unfold fewL; simp
theorem fewL_take (l : List Wr) (n : Nat) (h : n = min 20 l.length) : (l.take n).map cutW = fewL l := by
  unfold fewL
  congr 1
  rw [h]
  rcases Nat.le_total 20 l.length with h2 | h2
  · rw [Nat.min_eq_left h2]
  · rw [Nat.min_eq_right h2, List.take_of_length_le (Nat.le_refl _), List.take_of_length_le h2]
theorem info118s : (Try.prog.info? 118).map (fun i => (i.zero, i.size, i.bytes)) = some (some (.agg (wrC default).toArray), 2, 32) := by kernel_rfl
theorem info_agg {t : TypeId} {z : Value} {s b : Nat} (h : (Try.prog.info? t).map (fun i => (i.zero, i.size, i.bytes)) = some (some z, s, b)) : ∃ i, Try.prog.info? t = some i ∧ i.zero = some z ∧ i.size = s ∧ i.bytes = b := by
  cases hi : Try.prog.info? t with
  | none => rw [hi] at h; cases h
  | some i =>
    rw [hi] at h
    simp only [Option.map_some, Option.some.injEq, Prod.mk.injEq] at h
    exact ⟨i, rfl, h.1, h.2.1, h.2.2⟩
theorem bs62_1 (a b : Value) (W : World) : (Instr.buildSlice 62 1 #[(0, .agg #[a, b])]).run Try.prog W = .ok (.slice (some ⟨W.heap.size, 0, none⟩) 1 1) (W.alloc (.cells #[a, b] 73)) := by kernel_rfl
theorem bs58_1 (a b : Value) (W : World) : (Instr.buildSlice 58 1 #[(0, .agg #[a, b])]).run Try.prog W = .ok (.slice (some ⟨W.heap.size, 0, none⟩) 1 1) (W.alloc (.cells #[a, b] 118)) := by kernel_rfl
theorem build118 (r : Int) (a : Option Addr) (n c : Nat) (W : World) : (Instr.build 118 #[(0, .int .i64 r), (1, .slice a n c)]).run Try.prog W = .ok (.agg #[.int .i64 r, .slice a n c]) W := by kernel_rfl
set_option maxRecDepth 100000 in
set_option maxHeartbeats 8000000 in
theorem few_any {w W : World} (A : Option Addr) (m c : Nat) (ls : List Wr) (h : WsR w A m c ls) (hs : ∀ e ∈ ls, e.x.length ≤ e.c ∧ e.c ≤ maxLen) (hB : Below w.heap.size w W) :
    Calls Try.prog 51 #[.slice A m c] W fun e W' => ∃ v1 v2, e = .returned (.tuple #[v1, v2]) ∧ WsO W' v1 (fewL ls) ∧ (∀ k, rowOf v1 k → W.heap.size ≤ k) ∧ Own W' 118 2 v2 (fewL ls).length (wsC (fewL ls)) ∧ (∀ k, rowOf v2 k → W.heap.size ≤ k) ∧ Below W.heap.size W W' := by
  obtain ⟨i1, hi1, hz0, hz1, hz2⟩ := info_agg info73s
  obtain ⟨i2, hi2, hy0, hy1, hy2⟩ := info_agg info118s
  have hml := h.1
  have hmc := h.2.1
  have hcm := h.2.2.1
  have H := Lib.hid h
  have HS := Lib.hid hs
  have HB := Lib.hid hB
  have HML := Lib.hid hml
  clear h hs hB hml
  have hmx : m ≤ 9223372036854775807 := by unfold maxLen at hcm; omega
  go_enter Try.func51, Try.ntmps51
  go_wp2_with fail
  go_loopw [4, 5, 6] (fun c4 c5 c6 wr => ∃ i : Nat, i ≤ m ∧ i ≤ 20 ∧ c6 = .int .i64 (i : Int) ∧ Own wr 73 2 c4 i (wsC ((ls.take i).map cutW)) ∧ (∀ k, rowOf c4 k → W.heap.size ≤ k) ∧ Own wr 118 2 c5 i (wsC ((ls.take i).map cutW)) ∧ (∀ k, rowOf c5 k → W.heap.size ≤ k) ∧ Below W.heap.size W wr) (fun _ _ c6 _ => 20 - (intOf c6).toNat)
  case atStart => exact ⟨0, by omega, by omega, rfl, Own.nil _ _ _, (fun k hk => by cases hk), Own.nil _ _ _, (fun k hk => by cases hk), Below.refl _ _⟩
  case round =>
    obtain ⟨i, him, hi20, rfl, ho1, hr1, ho2, hr2, hBl⟩ := hrel
    have HO1 := Lib.hid ho1
    have HR1 := Lib.hid hr1
    have HO2 := Lib.hid ho2
    have HR2 := Lib.hid hr2
    have HBl := Lib.hid hBl
    clear ho1 hr1 ho2 hr2 hBl
    by_cases hlt : i < m ∧ i < 20
    · obtain ⟨hl1, hl2⟩ := hlt
      have hd1 : decide ((i : Int) < (m : Int)) = true := decide_eq_true (by omega)
      have hd2 : decide ((i : Int) < 20) = true := decide_eq_true (by omega)
      have hW := HB.out.trans (HBl.out.mono HB.out.size)
      obtain ⟨g, o, hA, hg0, hrg0⟩ := H.out.at_ i hl1
      have hrg := rangeAt_below hrg0 hW hg0
      have hg : g < wr.heap.size := Nat.lt_of_lt_of_le hg0 hW.size
      have hgW : g < W.heap.size := Nat.lt_of_lt_of_le hg0 HB.out.size
      clear hrg0
      subst hA
      obtain ⟨e, he⟩ : ∃ e, e = ls.getD i default := ⟨_, rfl⟩
      rw [← he] at hrg
      have hem : e ∈ ls := by
        have hil : i < ls.length := by rw [← HML.out]; exact hl1
        rw [he, show ls.getD i default = ls[i] by simp [hil]]
        exact List.getElem_mem hil
      obtain ⟨hx1, hx2⟩ := HS.out e hem
      have hcr : wr.cell? ⟨g, o + i * 2, none⟩ = some (.int .i64 e.room) := hrg 0 _ rfl
      have hca : wr.cell? ⟨g, o + i * 2 + 1, none⟩ = some (.slice e.A e.x.length e.c) := hrg 1 _ rfl
      have htk : (ls.take (i + 1)).map cutW = (ls.take i).map cutW ++ [cutW e] := by
        have hil : i < ls.length := by rw [← HML.out]; exact hl1
        rw [List.take_succ_eq_append_getElem hil, List.map_append, he]; simp [hil]
      have HTK := Lib.hid htk
      have hcw : wrC (cutW e) = [.int .i64 e.room, .slice e.A (min e.x.length 5000) e.c] := by
        unfold wrC cutW Wr.u; simp only; rw [List.length_take, Nat.min_comm]
      obtain ⟨rm, hrm⟩ : ∃ rm, rm = e.room := ⟨_, rfl⟩
      obtain ⟨PA, hPA⟩ : ∃ PA, PA = e.A := ⟨_, rfl⟩
      obtain ⟨pc, hpc⟩ : ∃ pc, pc = e.c := ⟨_, rfl⟩
      obtain ⟨q, hq⟩ : ∃ q, q = e.x.length := ⟨_, rfl⟩
      rw [← hrm] at hcr hcw
      rw [← hPA, ← hpc, ← hq] at hca hcw
      rw [← hpc] at hx1 hx2
      rw [← hq] at hx1
      obtain ⟨t, ht⟩ : ∃ t, t = min q 5000 := ⟨_, rfl⟩
      rw [← ht] at hcw
      have HCW := Lib.hid hcw
      have hti : min (q : Int) 5000 = (t : Int) := by omega
      have htc : (t : Int) ≤ (pc : Int) := by omega
      have ht0 : (0 : Int) ≤ (t : Int) := by omega
      have hqx : (q : Int) ≤ 9223372036854775807 := by unfold maxLen at hx2; omega
      have htp : t ≤ pc := by omega
      have h0i : (0 : Int) ≤ (i : Int) := by omega
      have himm : (i : Int) < (m : Int) := by omega
      have hgd : ((g : Nat) < wr.heap.size) := hg
      clear hrg hem he hrm hPA hpc hq ht htk hcw hW
      go_wp2_with fail
      refine wp_region_quiet_lit (by kernel_rfl) (by kernel_rfl) ?_
      repeat (go_big_quiet_step (fail))
      refine wpQuiet_nil ?_
      intro w5 hw5
      obtain ⟨k5, hw5⟩ := hw5
      have hb5 : Below wr.heap.size wr w5 := by rw [hw5]; exact ⟨rfl, rfl, rfl, Nat.le_refl _, fun _ _ => rfl⟩
      have hcr5 : w5.cell? ⟨g, o + i * 2, none⟩ = some (.int .i64 rm) := by rw [hw5]; exact hcr
      have HO15 := Lib.hid (Own.fr HO1.out (Fr.of_below hb5 nob) (fun _ h => h.elim))
      have HO25 := Lib.hid (Own.fr HO2.out (Fr.of_below hb5 nob) (fun _ h => h.elim))
      have HW5 := Lib.hid (HBl.out.trans (hb5.mono HBl.out.size))
      clear hw5 hb5 hcr hca
      go_wp2_with (first
        | (refine wpList_append_o _ rfl (.tmp 31) (.tmp 39) 62 rfl 73 i1 (.agg (wrC default).toArray) 2 32 Try.underlying62 hi1 hz0 hz1 hz2 (by rfl) (by omega) u4 i (wsC ((ls.take i).map cutW)) (by rfl) (Own.fr HO15.out ((Fr.refl nob w5).alloc _) (fun _ h => h.elim)) (some ⟨w5.heap.size, 0, none⟩) 1 1 [.int .i64 rm, .slice PA t pc] (by rfl) (Src.of_new w5 73 #[.int .i64 rm, .slice PA t pc] 2 rfl) (by simp [Value.oneCell']) (by simp only [maxLen]; omega) (by omega) ?_
           intro v6 w6 ho6 hf6 hr6
           have h2 : Own (w5.alloc (.cells #[.int .i64 rm, .slice PA t pc] 73)) 118 2 u5 i (wsC ((ls.take i).map cutW)) := Own.fr HO25.out ((Fr.refl nob w5).alloc _) (fun _ h => h.elim)
           have h1 : Own (w5.alloc (.cells #[.int .i64 rm, .slice PA t pc] 73)) 73 2 u4 i (wsC ((ls.take i).map cutW)) := Own.fr HO15.out ((Fr.refl nob w5).alloc _) (fun _ h => h.elim)
           have HO26 := Lib.hid (Own.fr h2 hf6 (own_disj h1 h2 (by decide)))
           have HO16 := Lib.hid ho6
           have s5 := HW5.out.size
           have r6 : ∀ k, rowOf v6 k → W.heap.size ≤ k := fun k hk => (hr6 k hk).elim (HR1.out k) (fun h => by simp only [World.size_alloc] at h; omega)
           have HR6 := Lib.hid r6
           have hb6 : Below W.heap.size (w5.alloc (.cells #[.int .i64 rm, .slice PA t pc] 73)) w6 := hf6.below (by simp only [World.size_alloc]; omega) (fun k hk => HR1.out k hk)
           have hcr6 : w6.cell? ⟨g, o + i * 2, none⟩ = some (.int .i64 rm) := ((((Below.refl W.heap.size w5).alloc s5 _).trans hb6).cell (p := ⟨g, o + i * 2, none⟩) hgW).trans hcr5
           have hW6 : Below W.heap.size W w6 := (HW5.out.alloc s5 (.cells #[.int .i64 rm, .slice PA t pc] 73)).trans hb6
           have HW6 := Lib.hid hW6
           have hg6 : g < w6.heap.size := Nat.lt_of_lt_of_le hgW hW6.size
           clear ho6 hf6 hr6 h1 h2 s5 r6 hb6 hW6 hcr5
           simp only [Act.put, List.setIfInBounds_toArray, List.set_cons_zero, List.set_cons_succ])
        | (refine wpList_append_o _ rfl (.tmp 41) (.tmp 49) 58 rfl 118 i2 (.agg (wrC default).toArray) 2 32 Try.underlying58 hi2 hy0 hy1 hy2 (by rfl) (by omega) u5 i (wsC ((ls.take i).map cutW)) (by rfl) (Own.fr HO26.out ((Fr.refl nob w6).alloc _) (fun _ h => h.elim)) (some ⟨w6.heap.size, 0, none⟩) 1 1 [.int .i64 rm, .slice PA t pc] (by rfl) (Src.of_new w6 118 #[.int .i64 rm, .slice PA t pc] 2 rfl) (by simp [Value.oneCell']) (by simp only [maxLen]; omega) (by omega) ?_
           intro v7 w7 ho7 hf7 hr7
           simp only [Act.put, List.setIfInBounds_toArray, List.set_cons_zero, List.set_cons_succ])
        | simp only [build73, build118, bs62_1, bs58_1]
        | fail)
      have s6 := HW6.out.size
      have e1 : wsC ((ls.take (i + 1)).map cutW) = wsC ((ls.take i).map cutW) ++ [.int .i64 rm, .slice PA t pc] := by
        rw [HTK.out, wsC_append, wsC_cons, HCW.out]; rfl
      have h2 : Own (w6.alloc (.cells #[.int .i64 rm, .slice PA t pc] 118)) 118 2 u5 i (wsC ((ls.take i).map cutW)) := Own.fr HO26.out ((Fr.refl nob w6).alloc _) (fun _ h => h.elim)
      have h1 : Own (w6.alloc (.cells #[.int .i64 rm, .slice PA t pc] 118)) 73 2 v6 (i + 1) (wsC ((ls.take i).map cutW) ++ [.int .i64 rm, .slice PA t pc]) := Own.fr HO16.out ((Fr.refl nob w6).alloc _) (fun _ h => h.elim)
      have r7 : ∀ k, rowOf v7 k → W.heap.size ≤ k := fun k hk => (hr7 k hk).elim (HR2.out k) (fun h => by simp only [World.size_alloc] at h; omega)
      refine ⟨⟨i + 1, by omega, by omega, rfl, by rw [e1]; exact Own.fr h1 hf7 (own_disj h2 h1 (by decide)), HR6.out, by rw [e1]; exact ho7, r7, (HW6.out.alloc s6 _).trans (hf7.below (by simp only [World.size_alloc]; omega) (fun k hk => HR2.out k hk))⟩, by simp [intOf]; omega⟩
    · have hi : i = min 20 ls.length := by have := HML.out; omega
      have hfl := fewL_take ls i hi
      have hfn : i = (fewL ls).length := by rw [fewL_len]; exact hi
      have HFL := Lib.hid hfl
      have HFN := Lib.hid hfn
      clear hi hfl hfn
      have hw : i < m ∧ ¬ i < 20 ∨ ¬ i < m := by omega
      rcases hw with ⟨hl1, hl2⟩ | hl1
      · have hd1 : decide ((i : Int) < (m : Int)) = true := decide_eq_true (by omega)
        have hd2 : decide ((i : Int) < 20) = false := decide_eq_false (by omega)
        go_wp2_with fail
        go_ret2
        exact ⟨u4, u5, rfl, by unfold WsO; rw [← HFN.out, ← HFL.out]; exact HO1.out, HR1.out, by rw [← HFN.out, ← HFL.out]; exact HO2.out, HR2.out, HBl.out⟩
      · have hd1 : decide ((i : Int) < (m : Int)) = false := decide_eq_false (by omega)
        go_wp2_with fail
        go_ret2
        exact ⟨u4, u5, rfl, by unfold WsO; rw [← HFN.out, ← HFL.out]; exact HO1.out, HR1.out, by rw [← HFN.out, ← HFL.out]; exact HO2.out, HR2.out, HBl.out⟩
end Go.Proofs.Ytnlkjhhocehhaaa
