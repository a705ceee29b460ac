/- The laws' own small functions: kind, early. -/
import Derived.Test.YtkagfnocpllcpaaOpen
import Derived.Test.YtkagfnocpllcpaaLives
namespace Go.Proofs.Ytkagfnocpllcpaa
set_option linter.unusedVariables false
open Go Go.RowKit Go.Proofs
instance : Inhabited Op := ⟨⟨0, 0, 0, ⟨#[]⟩, ⟨#[]⟩⟩⟩
theorem wrap_u64'' (n : Int) : IntKind.u64.wrap n = n % 18446744073709551616 := by
  simp [IntKind.wrap, IntKind.bits, IntKind.signed]
theorem rem_u (m : Int) (hm : 0 < m) (z : Int) : ∃ r : Int, 0 ≤ r ∧ r < m ∧ IntKind.u64.wrap z % m = r ∧ (IntKind.u64.wrap z).tmod m = r := by
  have h0 : 0 ≤ IntKind.u64.wrap z := by rw [wrap_u64'']; omega
  have h1 := Int.emod_nonneg (IntKind.u64.wrap z) (show m ≠ 0 by omega)
  have h2 := Int.emod_lt_of_pos (IntKind.u64.wrap z) hm
  exact ⟨IntKind.u64.wrap z % m, h1, h2, rfl, by rw [Int.tmod_eq_emod_of_nonneg h0]⟩
/-- A step's kind. -/
def kindI (z : Int) : Int := IntKind.u64.wrap z % 3
theorem kindI_bd (z : Int) : kindI z = 0 ∨ kindI z = 1 ∨ kindI z = 2 := by unfold kindI; omega
set_option maxRecDepth 100000 in
theorem kind_any (o : Op) (w : World) : Calls Try.prog 20 #[opV o] w fun e w' => e = .returned (.int .i64 (kindI o.kind)) ∧ Below w.heap.size w w' := by
  obtain ⟨z, a, b, c, d⟩ := o
  obtain ⟨r, h0, h1, h2, h3⟩ := rem_u 3 (by decide) z
  have hk : kindI z = r := h2
  have hw : wrap64 r = r := by unfold wrap64; omega
  rw [hk]
  have hB : Blk (w.alloc (.cells #[.int .i64 z, .int .i64 a, .int .i64 b, .string c, .string d] 23)) w.heap.size 23 #[.int .i64 z, .int .i64 a, .int .i64 b, .string c, .string d] := Blk.new _ _ _
  have hc0 := hB.cell 0
  clear hB hk
  go_enter Try.func20, Try.ntmps20
  go_wp2_with fail
  go_ret
  exact ⟨rfl, (Below.refl _ w).alloc (Nat.le_refl _) _⟩
/-- A row of operations that the call owns. -/
def opsC (l : List Op) : List Value := l.flatMap opCells
def OpsO (w : World) (v : Value) (l : List Op) : Prop := Own w 23 5 v l.length (opsC l)
theorem length_opsC (l : List Op) : (opsC l).length = l.length * 5 := by
  induction l with
  | nil => rfl
  | cons e l ih => rw [opsC, List.flatMap_cons, List.length_append, ← opsC, ih, List.length_cons]; show 5 + l.length * 5 = (l.length + 1) * 5; omega
theorem opsC_snoc (l : List Op) (o : Op) : opsC (l ++ [o]) = opsC l ++ opCells o := by simp [opsC]
theorem opsC_get : ∀ (l : List Op) (i j : Nat), i < l.length → j < 5 → (opsC l)[i * 5 + j]? = (opCells (l.getD i default))[j]?
  | [], _, _, h, _ => by simp at h
  | e :: l, 0, j, _, hj => by
    rw [opsC, List.flatMap_cons, Nat.zero_mul, Nat.zero_add, List.getElem?_append_left (by exact hj)]; rfl
  | e :: l, i + 1, j, h, hj => by
    rw [opsC, List.flatMap_cons, List.getElem?_append_right (by show 5 ≤ (i + 1) * 5 + j; omega), show (i + 1) * 5 + j - (opCells e).length = i * 5 + j by show _ - 5 = _; omega, ← opsC, opsC_get l i j (by simp at h; omega) hj]
    rfl
theorem OpsO.at_ {w : World} {v : Value} {l : List Op} (h : OpsO w v l) (i : Nat) (hi : i < l.length) : ∃ g o cap, v = .slice (some ⟨g, o, none⟩) l.length cap ∧ rowOf v g ∧ g < w.heap.size ∧ w.rangeAt g (o + i * 5) (opCells (l.getD i default)) := by
  rcases h.2 with ⟨_, h0⟩ | ⟨g, o, cap, cur, rfl, hb, hc, hm, hfit, hx⟩
  · omega
  · refine ⟨g, o, cap, rfl, rfl, hb.lt, fun j u hj => ?_⟩
    have hj5 : j < 5 := by have := (List.getElem?_eq_some_iff.1 hj).1; exact this
    rw [hb.cell, Nat.add_assoc]
    refine hx (i * 5 + j) u ?_
    rw [opsC_get l i j hi hj5]; exact hj
theorem OpsO.keep {w w' : World} {v : Value} {l : List Op} (h : OpsO w v l) (hb : Below w.heap.size w w') : OpsO w' v l := Own.fr h (Fr.of_below hb nob) (fun _ h => h.elim)
theorem zero23 : ∀ W : World, (Instr.alloc 23 true (.tuple #[])).run Try.prog W = .ok (.pointer (some ⟨W.heap.size, 0, none⟩)) (W.alloc (.cells (opCells default).toArray 23)) := fun W => by kernel_rfl
theorem info23 (o : Op) : (Try.prog.info? 23).map (·.size) = some (opCells o).length := by show _ = some 5; kernel_rfl
theorem one_op (o : Op) : (opCells o).toArray.all (·.oneCell') = true := by simp [Value.oneCell']
theorem bs37 (o : Op) (W : World) : (Instr.buildSlice 37 1 #[(0, opV o)]).run Try.prog W = .ok (.slice (some ⟨W.heap.size, 0, none⟩) 1 1) (W.alloc (.cells (opCells o).toArray 23)) := by
  obtain ⟨a, b, c, d, e⟩ := o
  kernel_rfl
theorem infoO23 : (Try.prog.info? 23).map (fun i => (i.zero, i.size, i.bytes)) = some (some (opV default), 5, 56) := by kernel_rfl
theorem rangeAt_mem {w : World} {x : Addr} {cs : List Value} (hl : 0 < cs.length) (h : ∀ j, j < cs.length → w.cell? (x.add j) = cs[j]?) : x.spot = none ∧ x.block < w.heap.size ∧ w.rangeAt x.block x.off cs := by
  obtain ⟨b, off, spot⟩ := x
  have hc0 := h 0 hl
  have hspot : spot = none := by
    rw [List.getElem?_eq_getElem hl] at hc0
    simpa [Addr.add] using World.cell?_spot hc0
  subst hspot
  refine ⟨rfl, ?_, fun j u hj => ?_⟩
  · rcases Nat.lt_or_ge b w.heap.size with h' | h'
    · exact h'
    · rw [List.getElem?_eq_getElem hl] at hc0
      simp [World.cell?, Addr.add, Array.getElem?_eq_none h'] at hc0
  · have hjl := (List.getElem?_eq_some_iff.1 hj).1
    have := h j hjl
    rw [hj] at this
    rw [← this, Addr.add_mid]
theorem IsOps.at_ {w : World} {a : Option Addr} {len cap : Nat} {l : List Op} (h : IsOps w a len cap l) (i : Nat) (hi : i < len) : ∃ g o, a = some ⟨g, o, none⟩ ∧ g < w.heap.size ∧ w.rangeAt g (o + i * 5) (opCells (l.getD i default)) := by
  rcases h with ⟨_, rfl, _⟩ | ⟨x, rfl, hl, hm, hz, hf, hc⟩
  · omega
  · have h0 := (rangeAt_mem (x := x.add (0 * 5)) (cs := opCells (l.getD 0 default)) (by simp) (fun j hj => hc 0 (l.getD 0 default) (by simp [show 0 < l.length by omega]) j hj)).1
    obtain ⟨b, off, spot⟩ := x
    have hs : spot = none := by simpa [Addr.add] using h0
    subst hs
    have hh := fun j hj => hc i (l.getD i default) (by simp [show i < l.length by omega]) j hj
    rw [Addr.add_mid] at hh
    obtain ⟨h1, h2, h3⟩ := rangeAt_mem (cs := opCells (l.getD i default)) (by simp) hh
    exact ⟨b, off, rfl, h2, h3⟩
theorem IsOps.le {w : World} {a : Option Addr} {len cap : Nat} {l : List Op} (h : IsOps w a len cap l) : len ≤ maxLen := by
  rcases h with ⟨_, rfl, _⟩ | ⟨x, rfl, hl, hm, _⟩ <;> omega
theorem IsOps.fits {w : World} {a : Option Addr} {len cap : Nat} {l : List Op} (h : IsOps w a len cap l) (i : Nat) (hi : i < len) : (l.getD i default).fits := by
  rcases h with ⟨_, rfl, _⟩ | ⟨x, rfl, hl, hm, hz, hf, hc⟩
  · omega
  · exact hf _ (by simp [show i < l.length by omega])
theorem Blk.op2 {w : World} {g : Nat} {z1 z2 z3 : Int} {id body s t : ByteArray} (h : Blk w g 23 (opCells ⟨z1, z2, z3, id, body⟩).toArray) :
    Blk ((w.setCell ⟨g, 3, none⟩ (.string s)).setCell ⟨g, 4, none⟩ (.string t)) g 23 (opCells ⟨z1, z2, z3, s, t⟩).toArray := (h.set_ 3 _).set_ 4 _
theorem exec_bs23 (e : Op) (W : World) (a : Act) (o : Oper) (i : Nat) (ho : o.op = .buildSlice 37 1 #[(0, .tmp i)]) (hx : a.eval (.tmp i) = opV e) :
    (execOp a.eval o).run Try.prog W = .ok (.value (.slice (some ⟨W.heap.size, 0, none⟩) 1 1)) (W.alloc (.cells (opCells e).toArray 23)) := by
  unfold execOp
  rw [ho]
  simp only [List.map_toArray, List.map_cons, List.map_nil, hx, Sem.run_bind, bs37, Result.andThen_ok, Sem.run_pure]
theorem op_fit {id : ByteArray} (h : ¬ 70 < (id.size : Int)) : id.size ≤ 70 := by omega
def fitL (l : List Op) : Prop := ∀ o ∈ l, o.id.size ≤ 70 ∧ o.body.size ≤ 40
theorem OpsO.snoc {w : World} {v : Value} {l : List Op} {x : Op} (h : Own w 23 5 v (l.length + 1) (opsC l ++ opCells x)) : OpsO w v (l ++ [x]) := by
  unfold OpsO
  rw [opsC_snoc, List.length_append]
  exact h
theorem fitL_snoc {l : List Op} {x : Op} (h : fitL l) (hx : x.id.size ≤ 70 ∧ x.body.size ≤ 40) : fitL (l ++ [x]) := fun o ho => by
  rcases List.mem_append.1 ho with ho | ho
  · exact h o ho
  · have : o = x := by simpa using ho
    subst this
    exact hx
set_option maxRecDepth 100000 in
set_option maxHeartbeats 2000000 in
theorem early_any (a : Option Addr) (len cap : Nat) (l : List Op) (w : World) (h : IsOps w a len cap l) :
    Calls Try.prog 18 #[.slice a len cap] w fun e w' => ∃ v' l', e = .returned v' ∧ OpsO w' v' l' ∧ l'.length ≤ 100 ∧ fitL l' ∧ (∀ k, rowOf v' k → w.heap.size ≤ k) ∧ Below w.heap.size w w' := by
  obtain ⟨i0, hi0, hz0, hz1, hz2⟩ := info_parts infoO23
  have hlen := h.le
  unfold maxLen at hlen
  have H := Lib.hid h
  clear h
  go_enter Try.func18, Try.ntmps18
  go_wp2_with fail
  go_loopw [3, 4] (fun c3 c4 wr => ∃ (k : Nat) (l' : List Op), k ≤ len ∧ k ≤ 100 ∧ c4 = .int .i64 (k : Int) ∧ l'.length = k ∧ OpsO wr c3 l' ∧ fitL l' ∧ (∀ j, rowOf c3 j → w.heap.size ≤ j) ∧ Below w.heap.size w wr) (fun _ c4 _ => 101 - (intOf c4).toNat)
  case atStart => exact ⟨0, [], by omega, by omega, rfl, rfl, Own.nil _ _ _, (fun o ho => by cases ho), (fun j hj => by cases hj), Below.refl _ _⟩
  case round =>
    obtain ⟨k, l', hk, hk100, rfl, hl', hO, hF, hR, hB⟩ := hrel
    have HO := Lib.hid hO
    have HF := Lib.hid hF
    have HR := Lib.hid hR
    have HB := Lib.hid hB
    clear hO hF hR hB
    by_cases hkl : k < len
    · have hdl : decide ((k : Int) < (len : Int)) = true := decide_eq_true (by omega)
      by_cases hk1 : k < 100
      · have hd1 : decide ((k : Int) < 100) = true := decide_eq_true (by omega)
        obtain ⟨g, o, rfl, hg, hr⟩ := H.out.at_ k hkl
        have hfit := H.out.fits k hkl
        obtain ⟨x, hx⟩ : ∃ x, x = l.getD k default := ⟨_, rfl⟩
        rw [← hx] at hr hfit
        obtain ⟨z1, z2, z3, id, body⟩ := x
        obtain ⟨_, _, _, hs1, hs2⟩ := hfit
        have hRr : wr.rangeAt g (o + k * 5) (opCells ⟨z1, z2, z3, id, body⟩) := rangeAt_below hr HB.out hg
        have HRR := Lib.hid hRr
        clear hx hr hRr
        obtain ⟨s, hs⟩ : ∃ s : ByteArray, s = if 70 < (id.size : Int) then id.extract 0 70 else id := ⟨_, rfl⟩
        obtain ⟨t, ht⟩ : ∃ t : ByteArray, t = if 40 < (body.size : Int) then body.extract 0 40 else body := ⟨_, rfl⟩
        have hs70 : s.size ≤ 70 := by rw [hs]; split <;> (try simp only [ByteArray.size_extract]) <;> omega
        have ht40 : t.size ≤ 40 := by rw [ht]; split <;> (try simp only [ByteArray.size_extract]) <;> omega
        have hq1 : 70 < (id.size : Int) ∧ s = id.extract 0 70 ∨ ¬ 70 < (id.size : Int) ∧ s = id := by
          by_cases h : 70 < (id.size : Int)
          · exact .inl ⟨h, by rw [hs, if_pos h]⟩
          · exact .inr ⟨h, by rw [hs, if_neg h]⟩
        have hq2 : 40 < (body.size : Int) ∧ t = body.extract 0 40 ∨ ¬ 40 < (body.size : Int) ∧ t = body := by
          by_cases h : 40 < (body.size : Int)
          · exact .inl ⟨h, by rw [ht, if_pos h]⟩
          · exact .inr ⟨h, by rw [ht, if_neg h]⟩
        clear hs ht
        unfold maxLen at hs1 hs2
        rcases hq1 with ⟨h70, hs⟩ | ⟨h70, hs⟩ <;> rcases hq2 with ⟨h40, ht⟩ | ⟨h40, ht⟩ <;>
        (go_wp2_with (first
          | (with_reducible refine wpList_load_mid rfl 23 (.tmp 18) rfl g (o + k * 5) (by with_unfolding_all rfl) (opCells ⟨z1, z2, z3, id, body⟩) _ HRR.out Try.underlying23 rfl (info23 _) ?_)
          | (with_reducible refine wpList_alloc_run rfl 23 rfl (opCells default).toArray zero23 ?_)
          | (refine wpList_store_blk rfl 23 (.tmp 5) (.tmp 19) rfl wr.heap.size 23 (opCells default).toArray (opCells ⟨z1, z2, z3, id, body⟩).toArray (by rfl) (by rfl) (Blk.new wr 23 _) rfl (info23 _) (one_op _) ?_
             intro w2 hb2 hf2
             have hF2 : Fr nob wr w2 := ((Fr.refl nob wr).alloc _).then hf2 (fun i hi => Or.inr (by unfold one at hi; omega))
             have hc3 : w2.cell? ⟨wr.heap.size, 3, none⟩ = some (.string id) := hb2.cell 3
             have hc4 : w2.cell? ⟨wr.heap.size, 4, none⟩ = some (.string body) := hb2.cell 4
             have hf3 := hb2.frozen 3
             have hf4 := hb2.frozen 4
             have HF2 := Lib.hid hF2
             have hb4 := Blk.op2 (s := s) (t := t) hb2
             have hF4 : Fr nob wr ((w2.setCell ⟨wr.heap.size, 3, none⟩ (.string s)).setCell ⟨wr.heap.size, 4, none⟩ (.string t)) := ((hF2.setCell' (.inr (Nat.le_refl _)) _).setCell' (.inr (Nat.le_refl _)) _)
             have hx4 : (opCells ⟨z1, z2, z3, s, t⟩).toArray = #[.int .i64 z1, .int .i64 z2, .int .i64 z3, .string s, .string t] := rfl
             obtain ⟨w4, hw4⟩ : ∃ w4, w4 = ((w2.setCell ⟨wr.heap.size, 3, none⟩ (.string s)).setCell ⟨wr.heap.size, 4, none⟩ (.string t)) := ⟨_, rfl⟩
             have hw4' := hw4
             rw [← hw4] at hb4 hF4
             have hB4 : Below w.heap.size w (w4.alloc (.cells (opCells ⟨z1, z2, z3, s, t⟩).toArray 23)) := (HB.out.trans (hF4.below_nob.mono HB.out.size)).alloc (by have := HB.out.size; have := hF4.size; omega) _
             have hO4 : OpsO (w4.alloc (.cells (opCells ⟨z1, z2, z3, s, t⟩).toArray 23)) u3 l' := (HO.out.fr hF4 (fun _ h => h.elim)).fr ((Fr.refl nob w4).alloc _) (fun _ h => h.elim)
             have hS4 : Src (w4.alloc (.cells (opCells ⟨z1, z2, z3, s, t⟩).toArray 23)) 5 (some ⟨w4.heap.size, 0, none⟩) 1 (opCells ⟨z1, z2, z3, s, t⟩) := Src.of_new w4 23 (opCells ⟨z1, z2, z3, s, t⟩).toArray 5 rfl
             have hEx := fun (a : Act) (o : Oper) (ho : o.op = .buildSlice 37 1 #[(0, .tmp 37)]) (hx : a.eval (.tmp 37) = opV ⟨z1, z2, z3, s, t⟩) => exec_bs23 ⟨z1, z2, z3, s, t⟩ w4 a o 37 ho hx
             have HB4 := Lib.hid hb4
             have HW4 := Lib.hid hw4
             have HFB4 := Lib.hid hB4
             have HO4 := Lib.hid hO4
             have HS4 := Lib.hid hS4
             have HEX := Lib.hid hEx
             have HF2 := Lib.hid hF2
             subst hs
             subst ht
             clear hb2 hf2 hF2 hb4 hw4 hw4' hB4 hO4 hS4 hEx hF4 hx4)
          | (rw [← HW4.out]
             with_reducible refine wpList_load_blk rfl 23 (.tmp 5) rfl wr.heap.size 23 _ _ (by with_unfolding_all rfl) HB4.out Try.underlying23 rfl (info23 _) ?_)
          | (with_reducible refine wpList_run _ _ rfl (HEX.out _ _ rfl (by with_unfolding_all rfl)) ?_)
          | (at_builtin
             refine wpList_append_o _ rfl (.tmp 36) (.tmp 38) 37 rfl 23 i0 (opV default) 5 56 Try.underlying37 hi0 hz0 hz1 hz2 (by rfl) (by omega) u3 l'.length (opsC l') (by rfl) HO4.out (some ⟨w4.heap.size, 0, none⟩) 1 1 (opCells ⟨z1, z2, z3, _, _⟩) (by rfl) HS4.out (by simp [Value.oneCell']) (by simp only [maxLen]; omega) (by omega) ?_
             intro v5 w5 hown5 hf5 hr5)
          | fail)
         go_roundw
         case rel =>
           have s4 := HFB4.out.size
           have ho5 := OpsO.snoc hown5
           exact ⟨k + 1, _, by omega, by omega, by go_num, by rw [List.length_append, hl']; rfl, ho5, fitL_snoc HF.out ⟨hs70, ht40⟩, fun j hj => (hr5 j hj).elim (HR.out j) (fun h => by omega), HFB4.out.trans (hf5.below s4 (HR.out))⟩
         case measure => simp [intOf]; omega)
      · obtain rfl : k = 100 := by omega
        go_wp2_with fail
        go_ret
        exact ⟨_, _, rfl, HO.out, by omega, HF.out, HR.out, HB.out⟩
    · obtain rfl : k = len := by omega
      have hdl : decide ((k : Int) < (k : Int)) = false := decide_eq_false (by omega)
      go_wp2_with fail
      go_ret
      exact ⟨_, _, rfl, HO.out, by omega, HF.out, HR.out, HB.out⟩
end Go.Proofs.Ytkagfnocpllcpaa
