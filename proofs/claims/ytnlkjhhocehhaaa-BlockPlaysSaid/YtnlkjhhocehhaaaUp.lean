/- Up: a disk is made whole. Read. -/
import Derived.Test.YtnlkjhhocehhaaaPart
namespace Go.Proofs.Ytnlkjhhocehhaaa
set_option linter.unusedVariables false
open Go Go.RowKit Go.Proofs Sha
theorem LsP.fr_row {P : Nat → Prop} {w w' : World} {v v' : Value} {l : List (List UInt8)} {e : TypeId} {s m : Nat} {xs : List Value} (h : LsP P w v l) (ho : Own w e s v' m xs) (h1 : e ≠ 22) (h2 : e ≠ 5) (hf : Fr (rowOf v') w w') : LsP P w' v l := by
  obtain ⟨us, a1, a2, a3, a4⟩ := h
  exact ⟨us, a1, Own.fr a2 hf (own_disj ho a2 h1), a3, fun i hi => ⟨Own.fr (a4 i hi).1 hf (own_disj ho (a4 i hi).1 h2), (a4 i hi).2⟩⟩
/-- A row of rows of byte slices. -/
def LLs (P : Nat → Prop) (w : World) (v : Value) (ll : List (List (List UInt8))) : Prop := ∃ us : List Value, us.length = ll.length ∧ Own w 48 1 v ll.length us ∧ (∀ g, rowOf v g → P g) ∧ ∀ i, i < ll.length → LsP P w (us.getD i undef) (ll.getD i [])
theorem LLs.nil {P : Nat → Prop} {w : World} : LLs P w (.slice none 0 0) [] := ⟨[], rfl, Own.nil _ _ _, (fun g hg => by cases hg), (fun i h => absurd h (by simp))⟩
theorem LLs.fr {P S : Nat → Prop} {w w' : World} {v : Value} {ll : List (List (List UInt8))} (h : LLs P w v ll) (hf : Fr S w w') (hs : ∀ k, S k → ¬ P k) : LLs P w' v ll := by
  obtain ⟨us, h1, h2, h3, h4⟩ := h
  exact ⟨us, h1, Own.fr h2 hf (fun k hk hk2 => hs k hk (h3 k hk2)), h3, fun i hi => (h4 i hi).fr hf hs⟩
theorem LLs.keep {P : Nat → Prop} {w w' : World} {v : Value} {ll : List (List (List UInt8))} (h : LLs P w v ll) (hb : Below w.heap.size w w') : LLs P w' v ll := h.fr (Fr.of_below hb nob) (fun _ h => h.elim)
theorem LLs.snoc {P : Nat → Prop} {w : World} {v u : Value} {ll : List (List (List UInt8))} {x : List (List UInt8)} {us : List Value} (h1 : us.length = ll.length) (h2 : Own w 48 1 v (ll.length + 1) (us ++ [u])) (h3 : ∀ g, rowOf v g → P g) (h4 : ∀ i, i < ll.length → LsP P w (us.getD i undef) (ll.getD i [])) (hu : LsP P w u x) : LLs P w v (ll ++ [x]) := by
  refine ⟨us ++ [u], by simp [h1], by rw [List.length_append]; exact h2, h3, fun i hi => ?_⟩
  rw [List.length_append, List.length_singleton] at hi
  rcases Nat.lt_or_ge i ll.length with h | h
  · have e1 : (us ++ [u]).getD i undef = us.getD i undef := by simp only [List.getD_eq_getElem?_getD]; rw [List.getElem?_append_left (by omega)]
    have e2 : (ll ++ [x]).getD i [] = ll.getD i [] := by simp only [List.getD_eq_getElem?_getD]; rw [List.getElem?_append_left (by omega)]
    rw [e1, e2]; exact h4 i h
  · obtain rfl : i = ll.length := by omega
    have e1 : (us ++ [u]).getD ll.length undef = u := by rw [← h1]; simp
    have e2 : (ll ++ [x]).getD ll.length [] = x := by simp
    rw [e1, e2]; exact hu
theorem info48 : (Try.prog.info? 48).map (fun i => (i.zero, i.size, i.bytes)) = some (some (.slice none 0 0), 1, 24) := by kernel_rfl
set_option maxRecDepth 100000 in
set_option maxHeartbeats 1000000 in
theorem read_any {w W : World} {d g n : Nat} {vs : List Value} {l : List (List UInt8)} {br : Bool} (h : Dk w W d g n vs l br) (k : Nat) (hk : k < n) (hn : n ≤ 100) (hl : (l.getD k []).length ≤ 1000000) : Calls Try.prog 54 #[dP d, .int .i64 (k : Int)] W fun e W' => ∃ v, e = .returned v ∧ LsP (newer W) W' v (scanB (l.getD k [])).1 ∧ Below W.heap.size W W' := by
  have hc : W.cell? ⟨d, 0, none⟩ = some (.slice (some ⟨g, 0, none⟩) n n) := h.blk.cell 0
  have hck := h.cell k hk
  obtain ⟨A, c, hv, hc1, hc2, hby, hA⟩ := Sl.of_own (h.own k hk)
  have HS := Lib.hid (scan_any (l.getD k []) A c W hby hl hc1 hc2 hA)
  rw [hv] at hck
  have hk0 : (0 : Int) ≤ (k : Int) := by omega
  have hd1 : decide ((k : Int) < 0) = false := decide_eq_false (by omega)
  have hd2 : decide ((n : Int) ≤ (k : Int)) = false := decide_eq_false (by omega)
  have hd3 : decide (n ≤ k) = false := decide_eq_false (by omega)
  have hkn : (k : Int) < (n : Int) := by omega
  obtain ⟨m, hm⟩ : ∃ m, m = (l.getD k []).length := ⟨_, rfl⟩
  rw [← hm] at hck HS
  clear h hv hm hby hA hc1 hc2 hl
  go_enter Try.func54, Try.ntmps54
  go_wp2_with (first
    | (go_at_call 45
       refine HS.out.mono ?_
       rintro e w2 ⟨v2, rfl, hL, hb2⟩
       obtain ⟨A2, c2, hv2, -, -⟩ := hL.ls.shape
       subst hv2)
    | fail)
  go_ret
  exact ⟨_, rfl, hL, hb2⟩
/-- A room without what is no whole record. -/
def cutB (b : List UInt8) : List UInt8 := b.take (scanB b).2
def upTo (i : Nat) (l : List (List UInt8)) : List (List UInt8) := (l.take i).map cutB ++ l.drop i
theorem upTo_len (i : Nat) (l : List (List UInt8)) : (upTo i l).length = l.length := by unfold upTo; simp; omega
theorem upTo_at (i : Nat) (l : List (List UInt8)) (j : Nat) (hj : j < l.length) : (upTo i l).getD j [] = if j < i then cutB (l.getD j []) else l.getD j [] := by
  unfold upTo
  simp only [List.getD_eq_getElem?_getD]
  by_cases h : j < i
  · rw [if_pos h, List.getElem?_append_left (by simp; omega), List.getElem?_map, List.getElem?_take_of_lt h, List.getElem?_eq_getElem hj]; rfl
  · rw [if_neg h, List.getElem?_append_right (by simp; omega), List.getElem?_drop]
    simp only [List.length_map, List.length_take]
    congr 2; omega
theorem upTo_succ (i : Nat) (l : List (List UInt8)) (hi : i < l.length) : upTo (i + 1) l = (upTo i l).set i (cutB (l.getD i [])) := by
  apply List.ext_getElem?
  intro j
  have a1 := upTo_len (i + 1) l
  have a2 := upTo_len i l
  rcases Nat.lt_or_ge j l.length with h | h
  · have b1 := upTo_at (i + 1) l j h
    have b2 := upTo_at i l j h
    simp only [List.getD_eq_getElem?_getD] at b1 b2
    rw [List.getElem?_eq_getElem (by omega)] at b1 ⊢
    rw [List.getElem?_set]
    by_cases e : i = j
    · subst e
      rw [if_pos rfl, if_pos (by omega)]
      rw [if_pos (by omega)] at b1
      simp only [Option.getD_some] at b1
      rw [b1]
      rfl
    · rw [if_neg e, List.getElem?_eq_getElem (by omega)]
      rw [List.getElem?_eq_getElem (by omega)] at b2
      simp only [Option.getD_some] at b1 b2
      rw [b1, b2]
      congr 1
      by_cases h2 : j < i
      · rw [if_pos h2, if_pos (by omega)]
      · rw [if_neg h2, if_neg (by omega)]
  · rw [List.getElem?_eq_none (by omega), List.getElem?_eq_none (by rw [List.length_set]; omega)]
theorem upTo_all (l : List (List UInt8)) : upTo l.length l = l.map cutB := by unfold upTo; simp
/-- A room's slice is cut short. -/
theorem Dk.cut {w W : World} {d g n : Nat} {vs : List Value} {l : List (List UInt8)} {br : Bool} (h : Dk w W d g n vs l br) (k : Nat) (hk : k < n) (t : Nat) (ht : t ≤ (l.getD k []).length) (A : Option Addr) (c : Nat) (hv : vs.getD k undef = .slice A (l.getD k []).length c) :
    Dk w (W.setCell ⟨g, k, none⟩ (.slice A t t)) d g n (vs.set k (.slice A t t)) (l.set k ((l.getD k []).take t)) br := by
  have hS : Fr (one g) W (W.setCell ⟨g, k, none⟩ (.slice A t t)) := (Fr.refl (one g) W).setCell' (.inl rfl) _
  have hrow : ∀ q, rowOf (.slice A t t) q → rowOf (vs.getD k undef) q := fun q hq => by rw [hv]; cases A <;> exact hq
  have gs : ∀ i, i < n → (vs.set k (.slice A t t)).getD i undef = if i = k then .slice A t t else vs.getD i undef := fun i hi => by
    have hl1 := h.n1
    simp only [List.getD_eq_getElem?_getD, List.getElem?_set]
    by_cases e : k = i
    · subst e; rw [if_pos rfl, if_pos (by omega), if_pos rfl]; rfl
    · rw [if_neg e, if_neg (fun h => e h.symm)]
  have gl : ∀ i, i < n → (l.set k ((l.getD k []).take t)).getD i [] = if i = k then (l.getD k []).take t else l.getD i [] := fun i hi => by
    have hl1 := h.n2
    simp only [List.getD_eq_getElem?_getD, List.getElem?_set]
    by_cases e : k = i
    · subst e; rw [if_pos rfl, if_pos (by omega), if_pos rfl]; rfl
    · rw [if_neg e, if_neg (fun h => e h.symm)]
  have hold : ∀ i, i < n → ∀ q, rowOf ((vs.set k (.slice A t t)).getD i undef) q → rowOf (vs.getD i undef) q := fun i hi q hq => by
    rw [gs i hi] at hq
    by_cases e : i = k
    · subst e; rw [if_pos rfl] at hq; exact hrow q hq
    · rw [if_neg e] at hq; exact hq
  have hlt : ((l.getD k []).take t).length = t := by rw [List.length_take]; omega
  refine ⟨h.blk.fr hS (fun e => by unfold one at e; exact h.dg e), ?_, by rw [List.length_set]; exact h.n1, by rw [List.length_set]; exact h.n2, fun i hi => ?_, fun i j hi hj hij q hq1 hq2 => h.dis i j hi hj hij q (hold i hi q hq1) (hold j hj q hq2), h.dnew, fun i hi q hq => h.rnew i hi q (hold i hi q hq), h.bel.trans (hS.below h.bel.size (fun q hq => by unfold one at hq; subst hq; exact h.dnew.2))⟩
  · have := h.arr.set_ k (.slice A t t)
    simpa using this
  · rw [gs i hi, gl i hi]
    by_cases e : i = k
    · subst e
      rw [if_pos rfl, if_pos rfl]
      have ho := h.own i hi
      rw [hv] at ho
      have ho2 : Own W 5 1 (.slice A t t) ((l.getD i []).take t).length (byteVals ((l.getD i []).take t)) := by
        rw [hlt]
        rcases ho.2 with ⟨e1, e2⟩ | ⟨g', o, cap, cur, e1, hb, hcc, hm, hfit, hx⟩
        · have t0 : t = 0 := by omega
          subst t0
          simp only [Value.slice.injEq] at e1
          obtain ⟨rfl, -, -⟩ := e1
          exact ⟨by simp [byteVals], .inl ⟨rfl, rfl⟩⟩
        · simp only [Value.slice.injEq] at e1
          obtain ⟨rfl, -, rfl⟩ := e1
          refine ⟨by rw [length_byteVals, hlt, Nat.mul_one], .inr ⟨g', o, t, cur, rfl, hb, Nat.le_refl _, by omega, by omega, fun j u hj => hx j u ?_⟩⟩
          have : byteVals ((l.getD i []).take t) = (byteVals (l.getD i [])).take t := by simp [byteVals, List.map_take]
          rw [this, List.getElem?_take] at hj
          split at hj
          · exact hj
          · cases hj
      exact Own.fr ho2 hS (fun q hq hq2 => by
        unfold one at hq; subst hq
        exact h.row_g i hi (hrow _ hq2))
    · rw [if_neg e, if_neg e]
      exact Own.fr (h.own i hi) hS (fun q hq hq2 => by unfold one at hq; subst hq; exact h.row_g i hi hq2)
end Go.Proofs.Ytnlkjhhocehhaaa
