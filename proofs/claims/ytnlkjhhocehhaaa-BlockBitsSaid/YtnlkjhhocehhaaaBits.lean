/- Of records, in one of which a byte of its digest is another one, just those ahead of it are told: the plain law. -/
import Derived.Test.YtnlkjhhocehhaaaBlockScans
namespace Go.Proofs.Ytnlkjhhocehhaaa
set_option linter.unusedVariables false
open Go Go.RowKit Go.Proofs Sha
theorem bits_next (x rest : List UInt8) (r : Nat) (y : UInt8) (hx : x.length ≤ 4000) (hr : r < 4) (hy : y ≠ (recB x).getD (2 + r) 0) : nextB ((recB x).set (2 + r) y ++ rest) = none := by
  have hl : (recB x).length = 6 + x.length := length_recB x
  have hsl : ((recB x).set (2 + r) y).length = 6 + x.length := by rw [List.length_set, hl]
  have hN := nextN_rec x [] hx
  rw [List.append_nil] at hN
  have e0 : ((recB x).set (2 + r) y ++ rest).getD 0 0 = (recB x).getD 0 0 := by
    simp only [List.getD_eq_getElem?_getD]
    rw [List.getElem?_append_left (by omega), List.getElem?_set_ne (by omega)]
  have e1 : ((recB x).set (2 + r) y ++ rest).getD 1 0 = (recB x).getD 1 0 := by
    simp only [List.getD_eq_getElem?_getD]
    rw [List.getElem?_append_left (by omega), List.getElem?_set_ne (by omega)]
  rw [nextB_as _ (by rw [List.length_append]; omega) x.length (by rw [e0, e1]; unfold nextN at hN; omega)]
  rw [if_neg (by rw [List.length_append]; omega), List.take_left' hsl]
  rw [if_neg]
  intro h
  have hd : ((recB x).set (2 + r) y).drop 6 = x := by
    rw [List.drop_set, if_pos (by omega)]
    unfold recB
    rw [List.append_assoc, ← List.append_assoc]
    exact List.drop_left' (by rw [List.length_append, sha4]; rfl)
  rw [hd] at h
  refine hy ?_
  rw [h]
  simp [List.getD_eq_getElem?_getD, show 2 + r < 6 + x.length by omega, hl]
theorem bits_scan (lo : List (List UInt8)) (h4 : ∀ x ∈ lo, x.length ≤ 4000) (j : Nat) (hj : j < lo.length) (r : Nat) (hr : r < 4) (p : Nat) (hp : p = (recs (lo.take j)).length + 2 + r) (y : UInt8) (hy : y ≠ (recs lo).getD p 0) :
    scanB ((recs lo).set p y) = (lo.take j, (recs (lo.take j)).length) := by
  obtain ⟨x, hx⟩ : ∃ x, x = lo[j] := ⟨_, rfl⟩
  have hlo : lo = lo.take j ++ x :: lo.drop (j + 1) := by rw [hx, ← List.drop_eq_getElem_cons hj, List.take_append_drop]
  have hx4 : x.length ≤ 4000 := h4 x (by rw [hx]; exact List.getElem_mem hj)
  have hrl : (recB x).length = 6 + x.length := length_recB x
  have hre : recs lo = recs (lo.take j) ++ (recB x ++ recs (lo.drop (j + 1))) := by
    have := congrArg recs hlo
    rwa [recs_append, recs_cons] at this
  have hyy : y ≠ (recB x).getD (2 + r) 0 := by
    intro h
    refine hy ?_
    rw [hre]
    simp only [List.getD_eq_getElem?_getD]
    rw [List.getElem?_append_right (by omega), List.getElem?_append_left (by omega), show p - (recs (lo.take j)).length = 2 + r by omega]
    rw [h]; simp [List.getD_eq_getElem?_getD]
  rw [hre, List.set_append_right _ _ (by omega), show p - (recs (lo.take j)).length = 2 + r by omega, List.set_append_left _ _ (by omega)]
  exact scan_recs _ _ (fun z hz => h4 z (List.mem_of_mem_take hz)) (bits_next x _ r y hx4 hr hyy)
/-- Where each record ends. -/
def endsL (lo : List (List UInt8)) : List Nat := (List.range lo.length).map (fun j => (recs (lo.take (j + 1))).length)
def endsV (lo : List (List UInt8)) : List Value := (endsL lo).map (fun n : Nat => Value.int .i64 (n : Int))
theorem endsL_len (lo : List (List UInt8)) : (endsL lo).length = lo.length := by unfold endsL; simp
theorem endsV_snoc (lo : List (List UInt8)) (x : List UInt8) : endsV (lo ++ [x]) = endsV lo ++ [.int .i64 ((recs lo).length + (6 + x.length) : Nat)] := by
  unfold endsV endsL
  rw [List.length_append, List.length_singleton, List.range_succ, List.map_append, List.map_append]
  congr 1
  · congr 1
    refine List.map_congr_left (fun j hj => ?_)
    rw [List.take_append_of_le_length (by have := List.mem_range.1 hj; omega)]
  · simp only [List.map_cons, List.map_nil]
    rw [List.take_of_length_le (by simp), recs_snoc, List.length_append, length_recB]
theorem endsV_get (lo : List (List UInt8)) (j : Nat) (hj : j < lo.length) : (endsV lo)[j]? = some (.int .i64 (((recs (lo.take j)).length + (6 + (lo.getD j []).length) : Nat) : Int)) := by
  unfold endsV endsL
  rw [List.getElem?_map, List.getElem?_map, List.getElem?_range hj]
  simp only [Option.map_some]
  have : lo.take (j + 1) = lo.take j ++ [lo.getD j []] := by
    rw [List.take_succ_eq_append_getElem hj]; simp [hj]
  rw [this, recs_snoc, List.length_append, length_recB]
theorem Own.set_byte {w : World} {g o c n : Nat} {l : List UInt8} (h : Own w 5 1 (.slice (some ⟨g, o, none⟩) n c) n (byteVals l)) (p : Nat) (hp : p < n) (y : UInt8) :
    Own (w.setCell ⟨g, o + p, none⟩ (v8 y)) 5 1 (.slice (some ⟨g, o, none⟩) n c) n (byteVals (l.set p y)) ∧ Fr (rowOf (.slice (some ⟨g, o, none⟩) n c)) w (w.setCell ⟨g, o + p, none⟩ (v8 y)) := by
  obtain ⟨h1, h2⟩ := h
  rcases h2 with ⟨e, _⟩ | ⟨g', o', c', cur, e, hb, hc, hm, hfit, hx⟩
  · cases e
  · injection e with e1 e2 e3
    injection e1 with e1
    injection e1 with e1 e4
    subst e1 e4 e3
    have hF : Fr (rowOf (.slice (some ⟨g, o, none⟩) n c)) w (w.setCell ⟨g, o + p, none⟩ (v8 y)) := (Fr.refl _ w).setCell' (.inl (by simp [rowOf, Value.ownBlock])) _
    refine ⟨⟨by rw [← h1]; simp [byteVals], .inr ⟨g, o, c, _, rfl, hb.set_ (o + p) _, hc, hm, ?_, fun j u hj => ?_⟩⟩, hF⟩
    · simpa using hfit
    · have hbl : (byteVals l).length = n := by rw [h1]; omega
      have e1 : byteVals (l.set p y) = (byteVals l).set p (v8 y) := by unfold byteVals; rw [List.map_set]
      rw [e1, List.getElem?_set] at hj
      rw [Array.getElem?_setIfInBounds]
      by_cases hpj : p = j
      · subst hpj
        rw [if_pos rfl, if_pos (by omega)] at hj
        rw [if_pos rfl, if_pos (by omega)]
        exact hj
      · rw [if_neg hpj] at hj
        rw [if_neg (by omega)]
        exact hx j u hj
theorem xor1_all : ∀ (x : Fin 256), UInt8.ofNat x.val ^^^ 1 ≠ UInt8.ofNat x.val := by decide +kernel
theorem xor1_ne (x : UInt8) : x ^^^ 1 ≠ x := by
  have h := xor1_all ⟨x.toNat, x.toNat_lt⟩
  simpa using h
theorem Own.take {w : World} {e : TypeId} {g o n c : Nat} {xs : List Value} (h : Own w e 1 (.slice (some ⟨g, o, none⟩) n c) n xs) (m : Nat) (hm : m ≤ n) : Own w e 1 (.slice (some ⟨g, o, none⟩) m c) m (xs.take m) := by
  obtain ⟨h1, h2⟩ := h
  rcases h2 with ⟨e, _⟩ | ⟨g', o', c', cur, e, hb, hc, hcm, hfit, hx⟩
  · cases e
  · injection e with e1 e2 e3
    injection e1 with e1
    injection e1 with e1 e4
    subst e1 e4 e3
    refine ⟨by rw [List.length_take]; omega, .inr ⟨g, o, c, cur, rfl, hb, by omega, hcm, hfit, fun j u hj => hx j u ?_⟩⟩
    rw [List.getElem?_take] at hj
    split at hj
    · exact hj
    · cases hj
theorem LsA.take {w0 w : World} {g o n c : Nat} {l : List (List UInt8)} (h : LsA w0 w (.slice (some ⟨g, o, none⟩) n c) l) (hn : n = l.length) (m : Nat) (hm : m ≤ n) : LsA w0 w (.slice (some ⟨g, o, none⟩) m c) (l.take m) := by
  obtain ⟨us, h1, h2, h3, h4⟩ := h
  rw [← hn] at h2
  have hl : (l.take m).length = m := by rw [List.length_take]; omega
  refine ⟨us.take m, by rw [List.length_take, hl]; omega, by rw [hl]; exact Own.take h2 m hm, h3, fun i hi => ?_⟩
  rw [hl] at hi
  have e1 : (us.take m).getD i undef = us.getD i undef := by simp only [List.getD_eq_getElem?_getD]; rw [List.getElem?_take_of_lt hi]
  have e2 : (l.take m).getD i [] = l.getD i [] := by simp only [List.getD_eq_getElem?_getD]; rw [List.getElem?_take_of_lt hi]
  rw [e1, e2]; exact h4 i (by omega)
theorem LsA.frr {w0 w w' : World} {v v' : Value} {l : List (List UInt8)} {e : TypeId} {s m : Nat} {xs : List Value} (h : LsA w0 w v l) (ho : Own w e s v' m xs) (h1 : e ≠ 22) (hf : Fr (rowOf v') w w') : LsA w0 w' v l := by
  obtain ⟨us, a1, a2, a3, a4⟩ := h
  exact ⟨us, a1, Own.fr a2 hf (own_disj ho a2 h1), a3, a4⟩
end Go.Proofs.Ytnlkjhhocehhaaa
