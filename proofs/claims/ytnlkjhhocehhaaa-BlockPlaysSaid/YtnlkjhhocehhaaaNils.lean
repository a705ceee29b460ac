/- A disk that isn't there; a step's kind; the lists of a step's writes. -/
import Derived.Test.YtnlkjhhocehhaaaCompact
import Derived.Test.YtnlkjhhocehhaaaFew
import Derived.Test.YtnlkjhhocehhaaaRefScan
namespace Go.Proofs.Ytnlkjhhocehhaaa
open Go Go.RowKit Go.Proofs Sha Go.BigFrame
set_option linter.unusedVariables false
theorem wrap_u64n (n : Int) : IntKind.u64.wrap n = n % 18446744073709551616 := by
  unfold IntKind.wrap IntKind.signed IntKind.bits; simp
theorem rem_n (m : Nat) (hm : 0 < m) (z : Int) : ∃ r : Nat, r < m ∧ IntKind.u64.wrap z % (m : Int) = (r : Int) ∧ (IntKind.u64.wrap z).tmod (m : Int) = (r : Int) := by
  have h0 : 0 ≤ IntKind.u64.wrap z := by rw [wrap_u64n]; omega
  have h1 := Int.emod_nonneg (IntKind.u64.wrap z) (show (m : Int) ≠ 0 by omega)
  have h2 := Int.emod_lt_of_pos (IntKind.u64.wrap z) (show (0 : Int) < (m : Int) by omega)
  exact ⟨(IntKind.u64.wrap z % (m : Int)).toNat, by omega, by omega, by rw [Int.tmod_eq_emod_of_nonneg h0]; omega⟩
theorem may_nil (v : Value) (W : World) : Calls Try.prog 81 #[.pointer none, v] W fun e w' => e = .returned (.int .i64 13) ∧ W = w' := by
  have hb := Lib.hid (broken_nil W)
  go_enter Try.func81, Try.ntmps81
  go_wp2_with (first
    | (go_at_call 56
       refine hb.out.mono ?_
       rintro e w1 ⟨rfl, rfl⟩)
    | fail)
  go_ret
  exact ⟨rfl, rfl⟩
theorem write_nil (v : Value) (W : World) : Calls Try.prog 52 #[.pointer none, v] W fun e w' => e = .returned (.int .i64 13) ∧ W = w' := by
  have hb := Lib.hid (may_nil v W)
  go_enter Try.func52, Try.ntmps52
  go_wp2_with (first
    | (go_at_call 81
       refine hb.out.mono ?_
       rintro e w1 ⟨rfl, rfl⟩)
    | fail)
  go_ret
  exact ⟨rfl, rfl⟩
theorem part_nil (v a b c : Value) (W : World) : Calls Try.prog 55 #[.pointer none, v, a, b, c] W fun e w' => e = .returned (.int .i64 13) ∧ W = w' := by
  have hb := Lib.hid (may_nil v W)
  go_enter Try.func55, Try.ntmps55
  go_wp2_with (first
    | (go_at_call 81
       refine hb.out.mono ?_
       rintro e w1 ⟨rfl, rfl⟩)
    | fail)
  go_ret
  exact ⟨rfl, rfl⟩
theorem up_nil (W : World) : Calls Try.prog 57 #[.pointer none] W fun e w' => e = .returned (.slice none 0 0) ∧ W = w' := by
  go_enter Try.func57, Try.ntmps57
  go_wp2_with fail
  go_ret
  exact ⟨rfl, rfl⟩
theorem compact_nil (a b : Value) (W : World) : Calls Try.prog 58 #[.pointer none, a, b] W fun e w' => e = .returned (.int .i64 13) ∧ W = w' := by
  have hb := Lib.hid (broken_nil W)
  go_enter Try.func58, Try.ntmps58
  go_wp2_with (first
    | (go_at_call 56
       refine hb.out.mono ?_
       rintro e w1 ⟨rfl, rfl⟩)
    | fail)
  go_ret
  exact ⟨rfl, rfl⟩
theorem read_nil (a : Value) (W : World) : Calls Try.prog 54 #[.pointer none, a] W fun e w' => e = .returned (.slice none 0 0) ∧ W = w' := by
  go_enter Try.func54, Try.ntmps54
  go_wp2_with fail
  go_ret
  exact ⟨rfl, rfl⟩
theorem size_nil (a : Value) (W : World) : Calls Try.prog 53 #[.pointer none, a] W fun e w' => e = .returned (.int .i64 0) ∧ W = w' := by
  go_enter Try.func53, Try.ntmps53
  go_wp2_with fail
  go_ret
  exact ⟨rfl, rfl⟩
def kindI (k : Int) : Int := IntKind.u64.wrap k % 4
theorem kind_any (a0 a1 a2 a3 : Int) (v : Value) (W : World) : Calls Try.prog 60 #[.agg #[.int .i64 a0, .int .i64 a1, .int .i64 a2, .int .i64 a3, v]] W fun e w' => e = .returned (.int .i64 (kindI a0)) ∧ Below W.heap.size W w' := by
  obtain ⟨r, hr, hr1, hr2⟩ := rem_n 4 (by omega) a0
  have HR1 : IntKind.u64.wrap a0 % 4 = (r : Int) := hr1
  have HR2 : (IntKind.u64.wrap a0).tmod 4 = (r : Int) := hr2
  have HK : Hid (kindI a0 = (r : Int)) := Lib.hid HR1
  go_enter Try.func60, Try.ntmps60
  go_wp2_with fail
  go_ret
  exact ⟨by rw [HK.out]; rfl, (Below.refl _ W).alloc (Nat.le_refl _) _⟩
set_option maxRecDepth 100000 in
set_option maxHeartbeats 4000000 in
theorem lists_any (v : Value) (fl : List Wr) (w : World) (h : WsO w v fl) (hs : ∀ e ∈ fl, Sl w e.u e.x) (hl : fl.length ≤ 1000) :
    Calls Try.prog 63 #[v] w fun e w' => ∃ v', e = .returned v' ∧ LsA w w' v' (fl.map (fun e => e.x)) ∧ Below w.heap.size w w' := by
  obtain ⟨i2, hi2, hy0, hy1, hy2⟩ := info_parts info22'
  have H := Lib.hid h
  have HS := Lib.hid hs
  obtain ⟨A, c, hv, hc1, hc2⟩ := h.shape
  subst hv
  obtain ⟨m, hm⟩ : ∃ m, m = fl.length := ⟨_, rfl⟩
  rw [← hm] at hl hc1 ⊢
  have HM := Lib.hid hm
  clear h hs hm
  go_enter Try.func63, Try.ntmps63
  go_wp2_with fail
  go_loopw [3, 4] (fun c3 c4 wr => ∃ i : Nat, i ≤ m ∧ c4 = .int .i64 (i : Int) ∧ LsA w wr c3 ((fl.take i).map (fun e => e.x)) ∧ Below w.heap.size w wr) (fun _ c4 _ => m - (intOf c4).toNat)
  case atStart => exact ⟨0, by omega, rfl, LsA.nil _ _, Below.refl _ _⟩
  case round =>
    obtain ⟨i, him, rfl, hA, hB⟩ := hrel
    have HBL := Lib.hid hB
    have HAA := Lib.hid hA
    clear hA hB
    by_cases hlt : i < m
    · have hd : decide ((i : Int) < (m : Int)) = true := decide_eq_true (by omega)
      have hil : i < fl.length := by rw [← HM.out]; exact hlt
      obtain ⟨e, he⟩ : ∃ e, e = fl.getD i default := ⟨_, rfl⟩
      have hem : e ∈ fl := by rw [he, show fl.getD i default = fl[i] by simp [hil]]; exact List.getElem_mem hil
      have HE := Lib.hid (HS.out e hem)
      obtain ⟨g, o, c', hv', -, hg, hr, -⟩ := H.out.at_ i hil
      injection hv' with e1 _ e3
      subst e1 e3
      rw [← he] at hr
      have hr0 := rangeAt_below hr HBL.out hg
      have hcx : wr.cell? ⟨g, o + i * 2 + 1, none⟩ = some e.u := hr0 1 _ rfl
      have htk : (fl.take (i + 1)).map (fun e => e.x) = (fl.take i).map (fun e => e.x) ++ [e.x] := by
        rw [List.take_succ_eq_append_getElem hil, List.map_append, he]; simp [hil]
      have HTK := Lib.hid htk
      obtain ⟨us, hu1, hu2, hu3, hu4⟩ := HAA.out
      have hln : ((fl.take i).map (fun e => e.x)).length = i := by rw [List.length_map, List.length_take]; omega
      rw [hln] at hu1 hu2
      have HLN := Lib.hid hln
      have HU1 := Lib.hid hu1
      have HU2 := Lib.hid hu2
      have HU3 := Lib.hid hu3
      have HU4 := Lib.hid hu4
      obtain ⟨PA, pc, hue, -⟩ := HE.out
      obtain ⟨q, hq⟩ : ∃ q, q = e.x.length := ⟨_, rfl⟩
      have hue2 : e.u = .slice PA q pc := by rw [hue, hq]
      rw [hue2] at hcx
      have HUE := Lib.hid hue2
      have h0i : (0 : Int) ≤ (i : Int) := by omega
      have him2 : (i : Int) < (m : Int) := by omega
      clear he hem hr hr0 htk hu1 hu2 hu3 hu4 hue hue2 hq hln
      go_wp2_with (first
        | (refine wpList_append_o _ rfl (.tmp 11) (.tmp 17) 48 rfl 22 i2 (.slice none 0 0) 1 24 Try.underlying48 hi2 hy0 hy1 hy2 (by rfl) (by omega) u3 i us (by rfl) (Own.fr HU2.out ((Fr.refl nob wr).alloc _) (fun _ h => h.elim)) (some ⟨wr.heap.size, 0, none⟩) 1 1 [.slice PA q pc] (by rfl) (Src.of_new wr 22 #[.slice PA q pc] 1 rfl) (by simp [Value.oneCell']) (by simp only [maxLen]; omega) (by omega) ?_
           intro v9 w9 ho9 hf9 hr9
           simp only [Act.put, List.setIfInBounds_toArray, List.set_cons_zero, List.set_cons_succ])
        | fail)
      have s7 := HBL.out.size
      have r9 : ∀ k, rowOf v9 k → w.heap.size ≤ k := fun k hk => (hr9 k hk).elim (HU3.out k) (fun h => by simp only [World.size_alloc] at h; omega)
      refine ⟨⟨i + 1, by omega, by go_num, ?_, (HBL.out.alloc (HBL.out.size) _).trans (hf9.below (by simp only [World.size_alloc]; omega) (fun k hk => HU3.out k hk))⟩, by simp [intOf]; omega⟩
      rw [HTK.out]
      exact LsA.snoc (by rw [HLN.out]; exact HU1.out) (by rw [HLN.out]; exact ho9) r9 HU4.out (by rw [← HUE.out]; exact HE.out)
    · obtain rfl : i = m := by omega
      have hd : decide ((i : Int) < (i : Int)) = false := decide_eq_false (by omega)
      have htk : fl.take i = fl := List.take_of_length_le (by rw [← HM.out]; exact Nat.le_refl _)
      rw [htk] at HAA
      clear htk
      go_wp2_with fail
      go_ret
      exact ⟨_, rfl, HAA.out, HBL.out⟩
end Go.Proofs.Ytnlkjhhocehhaaa
