/- What a disk's step leaves of the lists and writes beside it. -/
import Derived.Test.YtnlkjhhocehhaaaPlain
import Derived.Test.YtnlkjhhocehhaaaOpen
import Derived.Test.YtnlkjhhocehhaaaCompact
namespace Go.Proofs.Ytnlkjhhocehhaaa
set_option linter.unusedVariables false
open Go Go.RowKit Go.Proofs Sha
theorem cell_lt {w : World} {g o : Nat} {u : Value} (h : w.cell? ⟨g, o, none⟩ = some u) : g < w.heap.size := by
  rcases Nat.lt_or_ge g w.heap.size with h' | h'
  · exact h'
  · simp [World.cell?, Array.getElem?_eq_none h'] at h
def SlF (F : Nat → Prop) (w : World) (u : Value) (x : List UInt8) : Prop := ∃ A c, u = .slice A x.length c ∧ x.length ≤ c ∧ c ≤ maxLen ∧ Bytes w A x ∧ (A = none → c = 0) ∧ (0 < x.length → ∀ g o s, A = some ⟨g, o, s⟩ → ¬ F g)
/-- A row of byte slices, none of whose blocks is one of F's. -/
def LsF (F : Nat → Prop) (w : World) (v : Value) (l : List (List UInt8)) : Prop := ∃ us : List Value, us.length = l.length ∧ Own w 22 1 v l.length us ∧ (∀ g, rowOf v g → ¬ F g) ∧ ∀ i, i < l.length → SlF F w (us.getD i undef) (l.getD i [])
section
variable {F F' P : Nat → Prop} {w w' : World} {u v : Value} {x : List UInt8} {l : List (List UInt8)}
theorem SlF.fr (h : SlF F w u x) (hf : Fr F w w') : SlF F w' u x := by
  obtain ⟨A, c, h1, h2, h3, h4, h5, h6⟩ := h
  exact ⟨A, c, h1, h2, h3, Src.fr h4 hf (fun g o h0 e => h6 h0 g o _ e), h5, h6⟩
theorem SlF.to (h : SlF F w u x) (hF : ∀ k, F' k → F k ∨ w.heap.size ≤ k) : SlF F' w u x := by
  obtain ⟨A, c, h1, h2, h3, h4, h5, h6⟩ := h
  refine ⟨A, c, h1, h2, h3, h4, h5, fun h0 g o s e hg => ?_⟩
  rcases hF g hg with h | h
  · exact h6 h0 g o s e h
  · obtain ⟨g', o', e', hlt, -⟩ := h4.at_ h0
    rw [e] at e'
    injection e' with e'
    injection e' with e1 e2 e3
    subst e1
    omega
theorem SlF.sl (h : SlF F w u x) : Sl w u x := by
  obtain ⟨A, c, h1, h2, h3, h4, h5, h6⟩ := h
  exact ⟨A, c, h1, h2, h3, h4, h5⟩
theorem SlF.keep (h : SlF F w u x) (hb : Below w.heap.size w w') : SlF F w' u x := by
  obtain ⟨A, c, h1, h2, h3, h4, h5, h6⟩ := h
  exact ⟨A, c, h1, h2, h3, h4.keep hb, h5, h6⟩
/-- A slice from before F's blocks were made. -/
theorem Sl.far (h : Sl w u x) (hF : ∀ k, F k → w.heap.size ≤ k) : SlF F w u x := by
  obtain ⟨A, c, h1, h2, h3, h4, h5⟩ := h
  refine ⟨A, c, h1, h2, h3, h4, h5, fun h0 g o s e hg => ?_⟩
  obtain ⟨g', o', e', hlt, -⟩ := h4.at_ h0
  rw [e] at e'
  injection e' with e'
  injection e' with e1 e2 e3
  subst e1
  have := hF _ hg
  omega
theorem SlP.far (h : SlP P w u x) (hP : ∀ k, P k → ¬ F k) : SlF F w u x := by
  obtain ⟨A, c, h1, h2, h3, h4, h5⟩ := h.sl
  refine ⟨A, c, h1, h2, h3, h4, h5, fun h0 g o s e hg => ?_⟩
  refine hP g (h.2 g ?_) hg
  rw [h1, e]
  rfl
theorem LsF.ls (h : LsF F w v l) : Ls w v l := by obtain ⟨us, h1, h2, h3, h4⟩ := h; exact ⟨us, h1, h2, fun i hi => (h4 i hi).sl⟩
theorem LsF.fr (h : LsF F w v l) (hf : Fr F w w') : LsF F w' v l := by
  obtain ⟨us, h1, h2, h3, h4⟩ := h
  exact ⟨us, h1, Own.fr h2 hf (fun k hk hk2 => h3 k hk2 hk), h3, fun i hi => (h4 i hi).fr hf⟩
theorem LsF.keep (h : LsF F w v l) (hb : Below w.heap.size w w') : LsF F w' v l := by
  obtain ⟨us, h1, h2, h3, h4⟩ := h
  exact ⟨us, h1, Own.fr h2 (Fr.of_below hb nob) (fun _ h => h.elim), h3, fun i hi => (h4 i hi).keep hb⟩
theorem LsF.to (h : LsF F w v l) (hF : ∀ k, F' k → F k ∨ w.heap.size ≤ k) : LsF F' w v l := by
  obtain ⟨us, h1, h2, h3, h4⟩ := h
  refine ⟨us, h1, h2, fun g hg hg2 => ?_, fun i hi => (h4 i hi).to hF⟩
  rcases hF g hg2 with h | h
  · exact h3 g hg h
  · have := Own.lt h2 hg; omega
theorem SlF.step (h : SlF F w u x) (hf : Fr F w w') (hF : ∀ k, F' k → F k ∨ w.heap.size ≤ k) : SlF F' w' u x := by
  obtain ⟨A, c, h1, h2, h3, h4, h5, h6⟩ := h
  refine ⟨A, c, h1, h2, h3, Src.fr h4 hf (fun g o h0 e => h6 h0 g o _ e), h5, fun h0 g o s e hg => ?_⟩
  rcases hF g hg with h | h
  · exact h6 h0 g o s e h
  · obtain ⟨g', o', e', hlt, -⟩ := h4.at_ h0
    rw [e] at e'
    injection e' with e'
    injection e' with e1 e2 e3
    subst e1
    omega
theorem LsF.step (h : LsF F w v l) (hf : Fr F w w') (hF : ∀ k, F' k → F k ∨ w.heap.size ≤ k) : LsF F' w' v l := by
  obtain ⟨us, h1, h2, h3, h4⟩ := h
  refine ⟨us, h1, Own.fr h2 hf (fun k hk hk2 => h3 k hk2 hk), fun g hg hg2 => ?_, fun i hi => (h4 i hi).step hf hF⟩
  rcases hF g hg2 with h | h
  · exact h3 g hg h
  · have := Own.lt h2 hg; omega
theorem LsP.far (h : LsP P w v l) (hP : ∀ k, P k → ¬ F k) : LsF F w v l := by
  obtain ⟨us, h1, h2, h3, h4⟩ := h
  exact ⟨us, h1, h2, fun g hg => hP g (h3 g hg), fun i hi => (h4 i hi).far hP⟩
theorem LsA.far {w0 : World} (h : LsA w0 w v l) (hb : Below w0.heap.size w0 w) (hF : ∀ g, rowOf v g → ¬ F g) (hG : ∀ k, F k → w0.heap.size ≤ k) : LsF F w v l := by
  obtain ⟨us, h1, h2, h3, h4⟩ := h
  refine ⟨us, h1, h2, hF, fun i hi => ?_⟩
  obtain ⟨A, c, e1, e2, e3, e4, e5, e6⟩ := (h4 i hi).far hG
  exact ⟨A, c, e1, e2, e3, e4.keep hb, e5, e6⟩
end
section
variable {w W W' : World} {d g n : Nat} {vs vs' : List Value} {l : List (List UInt8)} {br : Bool}
theorem Dk.foot_lt (h : Dk w W d g n vs l br) : ∀ k, dfoot d g n vs k → k < W.heap.size := fun k hk => by
  rcases hk with rfl | rfl | ⟨i, hi, hk⟩
  · exact h.blk.lt
  · exact h.arr.lt
  · exact Own.lt (h.own i hi) hk
theorem dfoot_step (hr : ∀ i, i < n → ∀ k, rowOf (vs'.getD i undef) k → dfoot d g n vs k ∨ W.heap.size ≤ k) : ∀ k, dfoot d g n vs' k → dfoot d g n vs k ∨ W.heap.size ≤ k := fun k hk => by
  rcases hk with rfl | rfl | ⟨i, hi, hk⟩
  · exact .inl (.inl rfl)
  · exact .inl (.inr (.inl rfl))
  · exact hr i hi k hk
/-- What is changed beside a disk leaves the disk. -/
theorem Dk.frS {S : Nat → Prop} (h : Dk w W d g n vs l br) (hf : Fr S W W') (hs : ∀ k, S k → ¬ dfoot d g n vs k) (hge : ∀ k, S k → w.heap.size ≤ k) : Dk w W' d g n vs l br :=
  ⟨h.blk.fr hf (fun hk => hs d hk (.inl rfl)), h.arr.fr hf (fun hk => hs g hk (.inr (.inl rfl))), h.n1, h.n2, fun i hi => Own.fr (h.own i hi) hf (fun k hk hk2 => hs k hk (.inr (.inr ⟨i, hi, hk2⟩))), h.dis, h.dnew, h.rnew, h.bel.trans (hf.below h.bel.size hge)⟩
/-- A block beside a disk. -/
theorem blk_step {F F' : Nat → Prop} {b : Nat} {t : TypeId} {cs : Array Value} (h : Blk W b t cs) (hb : ¬ F b) (hf : Fr F W W') (hF : ∀ k, F' k → F k ∨ W.heap.size ≤ k) : Blk W' b t cs ∧ ¬ F' b := by
  refine ⟨h.fr hf hb, fun hh => ?_⟩
  rcases hF b hh with h' | h'
  · exact hb h'
  · have := h.lt; omega
theorem WsA.step {F F' : Nat → Prop} {A : Option Addr} {m c : Nat} {ws : List Wr} (h : WsA W F A m c ws) (hf : Fr F W W') (hF : ∀ k, F' k → F k ∨ W.heap.size ≤ k) : WsA W' F' A m c ws := by
  have h' := h.fr hf
  refine ⟨h'.row, fun h0 g o s e hg => ?_, fun e he => ?_⟩
  · rcases hF g hg with hh | hh
    · exact h.far h0 g o s e hh
    · obtain ⟨g', o', e', hlt, -⟩ := h.row.2.2.2.2.2 h0
      rw [e] at e'
      injection e' with e'
      injection e' with e1 e2 e3
      subst e1
      omega
  · obtain ⟨a1, a2, a3, a4, a5⟩ := h'.each e he
    refine ⟨a1, a2, a3, a4, fun h0 g o s ee hg => ?_⟩
    rcases hF g hg with hh | hh
    · exact a5 h0 g o s ee hh
    · obtain ⟨-, -, -, b4, -⟩ := h.each e he
      obtain ⟨g', o', e', hlt, -⟩ := b4.at_ h0
      rw [ee] at e'
      injection e' with e'
      injection e' with e1 e2 e3
      subst e1
      omega
theorem Own.none_cap {w : World} {e : TypeId} {s n c : Nat} {A : Option Addr} {xs : List Value} (h : Own w e s (.slice A n c) n xs) : A = none → c = 0 := fun hA => by
  rcases h.2 with ⟨hv, _⟩ | ⟨g, o, cap, cur, hv, _⟩
  · injection hv
  · injection hv with e1
    rw [hA] at e1; cases e1
theorem WsO.wsR {w : World} {A : Option Addr} {c : Nat} {fl : List Wr} (h : WsO w (.slice A fl.length c) fl) : WsR w A fl.length c fl := by
  obtain ⟨A', c', hv, h1, h2⟩ := WsO.shape h
  injection hv with e1 e2 e3
  subst e3
  exact ⟨rfl, h1, h2, Own.none_cap h, Src.of_own h⟩
theorem mem_fewL {ls : List Wr} {e : Wr} (h : e ∈ fewL ls) : ∃ e0 ∈ ls, e = cutW e0 := by
  unfold fewL at h
  obtain ⟨e0, h0, rfl⟩ := List.mem_map.1 h
  exact ⟨e0, List.mem_of_mem_take h0, rfl⟩
theorem few_len (ls : List Wr) : (fewL ls).length ≤ 20 ∧ ∀ e ∈ fewL ls, e.x.length ≤ 10000 := by
  refine ⟨by rw [fewL_len]; omega, fun e he => ?_⟩
  obtain ⟨e0, -, rfl⟩ := mem_fewL he
  show (e0.x.take 5000).length ≤ 10000
  rw [List.length_take]; omega
theorem few_each {w0 : World} {A0 : Option Addr} {m0 c0 : Nat} {ls : List Wr} (hI : WsI w0 A0 m0 c0 ls) : ∀ e ∈ fewL ls, Sl w0 e.u e.x := fun e he => by
  obtain ⟨e0, h0, rfl⟩ := mem_fewL he
  have h : Sl w0 (.slice e0.A (min 5000 e0.x.length) e0.c) (e0.x.take 5000) := Sl.take (u := e0.u) (hI.2 e0 h0) 5000
  show Sl w0 (.slice e0.A (e0.x.take 5000).length e0.c) (e0.x.take 5000)
  rw [List.length_take]
  exact h
/-- What few gives serves Write and Part. -/
theorem few_wsa {w0 W0 : World} {F : Nat → Prop} {A0 A : Option Addr} {m0 c0 c : Nat} {ls : List Wr} (hI : WsI w0 A0 m0 c0 ls) (hb : Below w0.heap.size w0 W) (hF : ∀ k, F k → w0.heap.size ≤ k) (hG : ∀ k, F k → k < W0.heap.size)
    (h : WsO W (.slice A (fewL ls).length c) (fewL ls)) (hr : ∀ k, rowOf (.slice A (fewL ls).length c) k → W0.heap.size ≤ k) : WsA W F A (fewL ls).length c (fewL ls) := by
  refine ⟨h.wsR, fun h0 g o s e hg => ?_, fun e he => ?_⟩
  · have := hr g (by rw [e]; rfl)
    have := hG g hg
    omega
  · obtain ⟨A1, c1, e1, e2, e3, e4, e5, e6⟩ := ((few_each hI e he).far hF)
    unfold Wr.u at e1
    injection e1 with f1 f2 f3
    subst f1 f3
    exact ⟨e2, e3, e5, e4.keep hb, e6⟩
end
/-- Rooms that are all whole: each room's records. -/
def Rooms (n : Nat) (l : List (List UInt8)) (L : List (List (List UInt8))) : Prop := l.length = n ∧ L.length = n ∧ ∀ k, k < n → l.getD k [] = recs (L.getD k []) ∧ (∀ x ∈ L.getD k [], x.length ≤ 4000) ∧ (L.getD k []).length ≤ 1000000 ∧ (l.getD k []).length ≤ 60000
def addL (n : Nat) (L : List (List (List UInt8))) (f : Nat → List (List UInt8)) : List (List (List UInt8)) := (List.range n).map (fun k => L.getD k [] ++ f k)
theorem addL_get (n : Nat) (L : List (List (List UInt8))) (f : Nat → List (List UInt8)) (k : Nat) (hk : k < n) : (addL n L f).getD k [] = L.getD k [] ++ f k := by
  unfold addL; simp [List.getD_eq_getElem?_getD, hk]
theorem Rooms.empty (n : Nat) : Rooms n (emptyD n) (List.replicate n []) := by
  refine ⟨by simp [emptyD], by simp, fun k hk => ?_⟩
  rw [empty_get]
  have : (List.replicate n ([] : List (List UInt8))).getD k [] = [] := by simp only [List.getD_eq_getElem?_getD, List.getElem?_replicate]; split <;> rfl
  rw [this]
  exact ⟨rfl, (fun x hx => by cases hx), Nat.zero_le _, Nat.zero_le _⟩
theorem Rooms.le {n : Nat} {l : List (List UInt8)} {L : List (List (List UInt8))} (h : Rooms n l L) : ∀ i, (l.getD i []).length ≤ 60000 := fun i => by
  by_cases hi : i < n
  · exact (h.2.2 i hi).2.2.2
  · have h1 := h.1
    rw [show l.getD i [] = [] by simp [List.getD_eq_getElem?_getD, List.getElem?_eq_none (show l.length ≤ i by omega)]]
    exact Nat.zero_le _
theorem recs_count : ∀ (l : List (List UInt8)), l.length ≤ (recs l).length
  | [] => Nat.le_refl _
  | x :: l => by
    have := recs_count l
    rw [recs_cons, List.length_append, length_recB, List.length_cons]; omega
/-- Write leaves whole rooms. -/
theorem Rooms.write {n : Nat} {l : List (List UInt8)} {L : List (List (List UInt8))} {ws : List Wr} {br : Bool} (h : Rooms n l L) (hz : mayD br (l.map List.length) ws = 0) :
    Rooms n (ws.foldl putW l) (addL n L (fun k => sel (k : Int) ws)) := by
  obtain ⟨h1, h2, h3⟩ := h
  obtain ⟨-, hw, hm⟩ := mayD_zero hz
  rw [List.length_map, h1] at hw hm
  refine ⟨by rw [foldl_putW_len]; exact h1, by simp [addL], fun k hk => ?_⟩
  obtain ⟨a1, a2, a3, a4⟩ := h3 k hk
  rw [addL_get _ _ _ _ hk, foldl_putW_get n k hk ws l h1 (fun e he => (hw e he).1), a1, recs_append]
  have hlen : (recs (L.getD k []) ++ recs (sel (k : Int) ws)).length ≤ 60000 := by
    rw [List.length_append, recs_sel, ← a1]
    have := hm k hk
    rw [getD_lens] at this
    omega
  refine ⟨rfl, fun x hx => ?_, ?_, hlen⟩
  · rcases List.mem_append.1 hx with hx | hx
    · exact a2 x hx
    · obtain ⟨e, he, rfl⟩ := sel_mem hx
      exact (hw e he).2
  · have h5 := recs_count (L.getD k [] ++ sel (k : Int) ws)
    rw [recs_append] at h5
    omega
theorem Rooms.scan {n : Nat} {l : List (List UInt8)} {L : List (List (List UInt8))} (h : Rooms n l L) (k : Nat) (hk : k < n) : (scanB (l.getD k [])).1 = L.getD k [] ∧ cutB (l.getD k []) = l.getD k [] := by
  obtain ⟨a1, a2, -, -⟩ := h.2.2 k hk
  rw [a1]
  exact cut_exact _ a2
theorem Rooms.map_scan {n : Nat} {l : List (List UInt8)} {L : List (List (List UInt8))} (h : Rooms n l L) : l.map (fun b => (scanB b).1) = L := by
  refine List.ext_getElem (by rw [List.length_map, h.1, h.2.1]) (fun i h1 h2 => ?_)
  have h3 := (h.scan i (by rw [← h.2.1]; exact h2)).1
  rw [List.length_map] at h1
  simpa [List.getD_eq_getElem?_getD, h1, h2] using h3
theorem Rooms.map_cut {n : Nat} {l : List (List UInt8)} {L : List (List (List UInt8))} (h : Rooms n l L) : l.map cutB = l := by
  refine List.ext_getElem (by rw [List.length_map]) (fun i h1 h2 => ?_)
  have h3 := (h.scan i (by rw [← h.1]; exact h2)).2
  simpa [List.getD_eq_getElem?_getD, h2] using h3
/-- A room that is written anew. -/
theorem Rooms.anew {n : Nat} {l : List (List UInt8)} {L : List (List (List UInt8))} (h : Rooms n l L) (r : Nat) (hr : r < n) (want : List (List UInt8)) (hx : ∀ x ∈ want, x.length ≤ 4000) (hl : (recs want).length ≤ 60000) : Rooms n (l.set r (recs want)) (L.set r want) := by
  obtain ⟨h1, h2, h3⟩ := h
  refine ⟨by rw [List.length_set]; exact h1, by rw [List.length_set]; exact h2, fun k hk => ?_⟩
  have g1 : (l.set r (recs want)).getD k [] = if k = r then recs want else l.getD k [] := by
    simp only [List.getD_eq_getElem?_getD, List.getElem?_set]
    by_cases e : r = k
    · subst e; rw [if_pos rfl, if_pos (by omega), if_pos rfl]; rfl
    · rw [if_neg e, if_neg (fun h => e h.symm)]
  have g2 : (L.set r want).getD k [] = if k = r then want else L.getD k [] := by
    simp only [List.getD_eq_getElem?_getD, List.getElem?_set]
    by_cases e : r = k
    · subst e; rw [if_pos rfl, if_pos (by omega), if_pos rfl]; rfl
    · rw [if_neg e, if_neg (fun h => e h.symm)]
  rw [g1, g2]
  by_cases e : k = r
  · rw [if_pos e, if_pos e]
    have := recs_count want
    exact ⟨rfl, hx, by omega, hl⟩
  · rw [if_neg e, if_neg e]; exact h3 k hk
theorem mayD_none (lens : List Nat) : mayD false lens [] = 0 := by
  unfold mayD
  rw [if_neg (by simp), if_neg (by simp), if_neg (by simp), if_neg]
  intro h
  obtain ⟨k, -, hk⟩ := List.any_eq_true.1 h
  simp [moreN] at hk
/-- A row of byte slices from w0's time, whose own block is B or later. -/
def LsB (B : Nat) (w0 w : World) (v : Value) (l : List (List UInt8)) : Prop := ∃ us : List Value, us.length = l.length ∧ Own w 22 1 v l.length us ∧ (∀ g, rowOf v g → B ≤ g) ∧ ∀ i, i < l.length → Sl w0 (us.getD i undef) (l.getD i [])
theorem LsB.nil (B : Nat) (w0 w : World) : LsB B w0 w (.slice none 0 0) [] := ⟨[], rfl, Own.nil _ _ _, (fun g hg => by cases hg), fun i h => by simp at h⟩
theorem LsB.far {F : Nat → Prop} {B : Nat} {w0 w : World} {v : Value} {l : List (List UInt8)} (h : LsB B w0 w v l) (hb : Below w0.heap.size w0 w) (hF : ∀ k, F k → w0.heap.size ≤ k) (hG : ∀ k, F k → k < B) : LsF F w v l := by
  obtain ⟨us, h1, h2, h3, h4⟩ := h
  refine ⟨us, h1, h2, fun g hg hg2 => ?_, fun i hi => ?_⟩
  · have := h3 g hg
    have := hG g hg2
    omega
  · obtain ⟨A, c, e1, e2, e3, e4, e5, e6⟩ := (h4 i hi).far hF
    exact ⟨A, c, e1, e2, e3, e4.keep hb, e5, e6⟩
theorem LsB.snoc {B : Nat} {w0 w : World} {v u : Value} {l : List (List UInt8)} {x : List UInt8} {us : List Value} (h1 : us.length = l.length) (h2 : Own w 22 1 v (l.length + 1) (us ++ [u])) (h3 : ∀ g, rowOf v g → B ≤ g) (h4 : ∀ i, i < l.length → Sl w0 (us.getD i undef) (l.getD i [])) (hu : Sl w0 u x) : LsB B w0 w v (l ++ [x]) := by
  refine ⟨us ++ [u], by simp [h1], by rw [List.length_append]; exact h2, h3, fun i hi => ?_⟩
  rw [List.length_append, List.length_singleton] at hi
  rcases Nat.lt_or_ge i l.length with h | h
  · have e1 : (us ++ [u]).getD i undef = us.getD i undef := by simp only [List.getD_eq_getElem?_getD]; rw [List.getElem?_append_left (by omega)]
    have e2 : (l ++ [x]).getD i [] = l.getD i [] := by simp only [List.getD_eq_getElem?_getD]; rw [List.getElem?_append_left (by omega)]
    rw [e1, e2]; exact h4 i h
  · obtain rfl : i = l.length := by omega
    have e1 : (us ++ [u]).getD l.length undef = u := by rw [← h1]; simp
    have e2 : (l ++ [x]).getD l.length [] = x := by simp
    rw [e1, e2]; exact hu
section
variable {w W : World} {d g n : Nat} {vs : List Value} {l : List (List UInt8)} {L : List (List (List UInt8))} {br : Bool}
/-- Read of whole rooms. -/
theorem read_rooms (hD : Dk w W d g n vs l br) (hn : n ≤ 100) (hR : Rooms n l L) (k : Nat) (hk : k < n) : Calls Try.prog 54 #[dP d, .int .i64 (k : Int)] W fun e W' => ∃ A1 n1 c1, e = .returned (.slice A1 n1 c1) ∧ LsF (dfoot d g n vs) W' (.slice A1 n1 c1) (L.getD k []) ∧ Below W.heap.size W W' := by
  refine (read_any hD k hk hn (Nat.le_trans (hR.le k) (by omega))).mono ?_
  rintro e W' ⟨v, rfl, h2, h3⟩
  rw [(hR.scan k hk).1] at h2
  have h4 : LsF (dfoot d g n vs) W' v (L.getD k []) := h2.far (fun j hj hd => by have := hD.foot_lt j hd; unfold newer at hj; omega)
  obtain ⟨A1, c1, hv, -, -⟩ := h4.ls.shape
  subst hv
  exact ⟨A1, _, c1, rfl, h4, h3⟩
/-- Part of no writes. -/
theorem part_none (hD : Dk w W d g n vs l false) (hn : n ≤ 100) (hR : Rooms n l L) : Calls Try.prog 55 #[dP d, .slice none 0 0, .int .i64 0, .int .i64 0, .int .i64 0] W fun e W' => e = .returned (.int .i64 0) ∧ ∃ vs', Dk w W' d g n vs' l true ∧ Fr (dfoot d g n vs) W W' ∧ (∀ k, dfoot d g n vs' k → dfoot d g n vs k ∨ W.heap.size ≤ k) := by
  refine (part_any hD hn none 0 0 [] (WsA.nil _ _) (by omega) (fun e he => by cases he) hR.le 0 0 0).mono ?_
  rintro e W' ⟨rfl, h2⟩
  rw [mayD_none] at h2 ⊢
  rw [if_pos rfl] at h2
  obtain ⟨vs', h3, h4, h5⟩ := h2
  exact ⟨rfl, vs', h3, h4, dfoot_step h5⟩
/-- Up of whole rooms. -/
theorem up_rooms (hD : Dk w W d g n vs l br) (hn : n ≤ 100) (hR : Rooms n l L) : Calls Try.prog 57 #[dP d] W fun e W' => ∃ A1 c1, e = .returned (.slice A1 n c1) ∧ LLs (newer W) W' (.slice A1 n c1) L ∧ ∃ vs', Dk w W' d g n vs' l false ∧ Fr (dfoot d g n vs) W W' ∧ (∀ k, dfoot d g n vs' k → dfoot d g n vs k ∨ W.heap.size ≤ k) := by
  refine (up_any hD hn (fun i => Nat.le_trans (hR.le i) (by omega))).mono ?_
  rintro e W' ⟨v, rfl, h2, vs', h3, h4, h5⟩
  rw [hR.map_scan] at h2
  rw [hR.map_cut] at h3
  have h6 := h2
  obtain ⟨us, u1, u2, -, -⟩ := h6
  obtain ⟨A1, c1, hv, -, -⟩ := u2.shape
  rw [hR.2.1] at hv
  subst hv
  exact ⟨A1, c1, rfl, h2, vs', h3, h4, dfoot_step h5⟩
end
theorem comD_zero {br : Bool} {n : Nat} {room : Int} {want : List (List UInt8)} (h : comD br n room want = 0) : br = false ∧ 0 ≤ room ∧ room < (n : Int) ∧ (∀ x ∈ want, x.length ≤ 4000) ∧ (recs want).length ≤ 60000 := by
  unfold comD at h
  cases br with
  | true => rw [if_pos rfl] at h; cases h
  | false =>
    rw [if_neg (by simp)] at h
    by_cases h1 : room < 0 ∨ (n : Int) ≤ room
    · rw [if_pos h1] at h; cases h
    · rw [if_neg h1] at h
      by_cases h2 : want.any longB = true
      · rw [if_pos h2] at h; cases h
      · rw [if_neg h2] at h
        by_cases h3 : 60000 < (recs want).length
        · rw [if_pos h3] at h; cases h
        · refine ⟨rfl, by omega, by omega, fun x hx => ?_, by omega⟩
          have : ¬ longB x = true := fun hh => h2 (List.any_eq_true.2 ⟨x, hx, hh⟩)
          unfold longB at this
          simp at this
          exact this
end Go.Proofs.Ytnlkjhhocehhaaa
