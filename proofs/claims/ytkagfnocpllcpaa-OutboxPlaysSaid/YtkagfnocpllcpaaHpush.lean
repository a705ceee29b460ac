/- The contracts of heap.Push, heap.Pop, heap.Remove over a queue of entries. -/
import Derived.Test.YtkagfnocpllcpaaDown
namespace Go.Proofs.Ytkagfnocpllcpaa
set_option linter.unusedVariables false
open Go Go.RowKit Go.Proofs
/-- What a box is: its queue's slice, its time; the queue's entries. -/
structure BoxA (w : World) (b : Nat) (v : Value) (l : List E) (now : Int) : Prop where
  blk : Blk w b 58 #[v, .int .i64 now]
  ents : Ents w v l
theorem BoxA.ne {w : World} {b : Nat} {v : Value} {l : List E} {now : Int} (h : BoxA w b v l now) : ¬ rowOf v b := Own.blk_ne h.ents h.blk (by decide)
theorem BoxA.cell {w : World} {b : Nat} {v : Value} {l : List E} {now : Int} (h : BoxA w b v l now) : w.cell? ⟨b, 0, none⟩ = some v := h.blk.cell 0
theorem BoxA.row {w w' : World} {b : Nat} {v : Value} {l l' : List E} {now : Int} (h : BoxA w b v l now) (hF : Fr (rowOf v) w w') (hE : Ents w' v l') : BoxA w' b v l' now := ⟨h.blk.fr hF h.ne, hE⟩
theorem BoxA.keep {w w' : World} {b : Nat} {v : Value} {l : List E} {now : Int} (h : BoxA w b v l now) (hb : Below w.heap.size w w') : BoxA w' b v l now := ⟨h.blk.below hb h.blk.lt, h.ents.keep hb⟩
theorem row_foot {b : Nat} {v : Value} {w w' : World} (h : Fr (rowOf v) w w') : Fr (foot b v) w w' := h.mono (fun _ _ h => .inr h)
/-- What a step leaves of a box. -/
def BoxTo (b : Nat) (v : Value) (now : Int) (w : World) (l : List E) (w' : World) : Prop :=
  ∃ v', BoxA w' b v' l now ∧ Fr (foot b v) w w' ∧ ∀ k, rowOf v' k → rowOf v k ∨ w.heap.size ≤ k
theorem BoxTo.len {b : Nat} {v : Value} {now : Int} {w : World} {l : List E} {w' : World} (h : BoxTo b v now w l w') : w.heap.size ≤ w'.heap.size := by obtain ⟨_, _, h, _⟩ := h; exact h.size
set_option maxRecDepth 100000 in
set_option maxHeartbeats 1000000 in
theorem hpush_any (b : Nat) (l : List E) (e : E) (v : Value) (now : Int) (w : World) (h : BoxA w b v l now) (hl : l.length ≤ 900) :
    Calls Try.prog 27 #[qI b, .iface 47 (entV e)] w fun en w' => en = .returned (.tuple #[]) ∧ BoxTo b v now w (Hp.pushL ltE l e) w' := by
  have hmp := m_push b w
  have HML := Lib.hid (m_len b)
  have HP := Lib.hid (push_any b l e v now w h.blk h.ents (by omega))
  have H := Lib.hid h
  clear h
  go_enter Try.func27, Try.ntmps27
  go_wp2_with (first
    | (go_at_call 93
       refine HP.out.mono ?_
       rintro en w1 ⟨rfl, v1, hB1, hE1, hF1, hR1⟩
       obtain ⟨A1, c1, rfl, hc1, hc2⟩ := hE1.shape
       have hl1 : (l ++ [e]).length = l.length + 1 := by simp
       rw [hl1] at hB1 hE1 hR1
       have hml := HML.out w1 _ (hB1.cell 0)
       have hli : ((l.length + 1 : Nat) : Int) - 1 = (l.length : Int) := by omega
       have HU := Lib.hid (up_any b (l ++ [e]) (l.length + 1) l.length (.slice A1 (l.length + 1) c1) now w1 hB1 hE1 (by omega) (by omega) (by omega)))
    | (go_at_call 89
       refine (len_any _ _ _ _).mono ?_
       rintro en w1' ⟨rfl, rfl⟩)
    | (go_at_call 37
       refine HU.out.mono ?_
       rintro en w2 ⟨rfl, hE2, hF2⟩)
    | fail)
  go_end0
  have hX : BoxA w1 b (.slice A1 (l.length + 1) c1) (l ++ [e]) now := ⟨hB1, hE1⟩
  exact ⟨rfl, _, hX.row hF2 hE2, hF1.then hF2 (fun k hk => (hR1 k hk).elim (fun h => .inl (.inr h)) .inr), hR1⟩
set_option maxRecDepth 100000 in
set_option maxHeartbeats 1000000 in
theorem hpop_any (b : Nat) (l : List E) (v : Value) (now : Int) (w : World) (h : BoxA w b v l now) (hl : l.length ≤ 900) (h0 : 0 < l.length) :
    Calls Try.prog 36 #[qI b] w fun en w' => en = .returned (.iface 47 (entV (Hp.popL ltE l).2)) ∧ BoxTo b v now w (Hp.popL ltE l).1 w' := by
  obtain ⟨n, hn⟩ : ∃ n, n = l.length - 1 := ⟨_, rfl⟩
  have hln : l.length = n + 1 := by omega
  obtain ⟨A, c, hv, hc1, hc2⟩ := h.ents.shape
  have hml := m_len b w v h.cell
  have hms := m_swap b w v h.cell
  have HS := Lib.hid (swap_any l v 0 n w h.ents (by omega) (by omega) (by omega))
  have hpop : Hp.popL ltE l = ((Hp.downL ltE l.length (Hp.swapL l 0 n) 0 n).1.take n, (Hp.downL ltE l.length (Hp.swapL l 0 n) 0 n).1.getD n default) := by unfold Hp.popL; rw [hn]
  obtain ⟨l1, hl1⟩ : ∃ l1, l1 = Hp.swapL l 0 n := ⟨_, rfl⟩
  have hl1l : l1.length = n + 1 := by rw [hl1, Hp.length_swapL, hln]
  obtain ⟨d, hd⟩ : ∃ d, d = Hp.downL ltE l.length l1 0 n := ⟨_, rfl⟩
  have hdl : d.1.length = n + 1 := by rw [hd, Hp.length_downL, hl1l]
  rw [← hl1] at HS hpop
  rw [← hd] at hpop
  have H := Lib.hid h
  have HLN := Lib.hid hln
  have HD := Lib.hid hd
  have HPOP := Lib.hid hpop
  have HL1 := Lib.hid hl1l
  have HDL := Lib.hid hdl
  rw [hln] at hv
  subst hv
  have hz : ((n + 1 : Nat) : Int) - 1 = (n : Int) := by omega
  have hn9 : n ≤ 900 := by omega
  clear h hln hd hpop hl1l hdl hl1 hn hl h0 hc1
  go_enter Try.func36, Try.ntmps36
  go_wp2_with (first
    | (go_at_call 89
       refine (len_any _ _ _ _).mono ?_
       rintro en w1' ⟨rfl, rfl⟩)
    | (go_at_call 91
       refine HS.out.mono ?_
       rintro en w1 ⟨rfl, hE1, hF1⟩
       have hX1 := H.out.row hF1 hE1
       have HU := Lib.hid (down_any b l1 l.length 0 n (.slice A (n + 1) c) now w1 hX1.blk hX1.ents (by rw [HL1.out]; omega) (by rw [HL1.out]; omega) (by omega) (by rw [HLN.out]; omega)))
    | (go_at_call 40
       refine HU.out.mono ?_
       rintro en w2 ⟨rfl, hE2, hF2⟩
       rw [← HD.out] at hE2
       have hX2 := hX1.row hF2 hE2
       have hmp := m_pop b w2
       have HQ := Lib.hid (pop_any b d.1 (.slice A (n + 1) c) now w2 hX2.blk hX2.ents (by rw [HDL.out]; omega) (by rw [HDL.out]; omega)))
    | (go_at_call 92
       refine HQ.out.mono ?_
       rintro en w3 ⟨rfl, v3, hB3, hE3, hF3, hR3⟩
       rw [HDL.out, Nat.add_sub_cancel] at hE3)
    | fail)
  go_ret
  have hF : Fr (foot b (.slice A (n + 1) c)) w w3 := ((row_foot hF1).trans (row_foot hF2)).trans (hF3.mono (fun k _ hk => .inl hk))
  rw [HPOP.out]
  refine ⟨?_, v3, ⟨hB3, hE3⟩, hF, fun k hk => .inl (hR3 k hk)⟩
  show Ending.returned (.iface 47 (entV (d.1.getD (d.1.length - 1) default))) = Ending.returned (.iface 47 (entV (d.1.getD n default)))
  rw [HDL.out, Nat.add_sub_cancel]
set_option maxRecDepth 100000 in
set_option maxHeartbeats 1000000 in
theorem hremove_any (b i : Nat) (l : List E) (v : Value) (now : Int) (w : World) (h : BoxA w b v l now) (hl : l.length ≤ 900) (hi : i < l.length) :
    Calls Try.prog 29 #[qI b, .int .i64 (i : Int)] w fun en w' => (∃ x, en = .returned x) ∧ BoxTo b v now w (Hp.removeL ltE l i) w' := by
  obtain ⟨n, hn⟩ : ∃ n, n = l.length - 1 := ⟨_, rfl⟩
  have hln : l.length = n + 1 := by omega
  obtain ⟨A, c, hv, hc1, hc2⟩ := h.ents.shape
  have hml := m_len b w v h.cell
  have hms := m_swap b w v h.cell
  have hmp := m_pop b
  have HS := Lib.hid (swap_any l v i n w h.ents hi (by omega) (by omega))
  have hz : ((n + 1 : Nat) : Int) - 1 = (n : Int) := by omega
  have hn9 : n ≤ 900 := by omega
  by_cases hin : n = i
  · subst hin
    have hrem : Hp.removeL ltE l n = l.take n := by unfold Hp.removeL; rw [if_pos (by omega), hn]
    have HQ := Lib.hid (pop_any b l v now w h.blk h.ents (by omega) (by omega))
    have H := Lib.hid h
    have HLN := Lib.hid hln
    have HR := Lib.hid hrem
    rw [hln] at hv
    subst hv
    have hnq : ((n : Int) != (n : Int)) = false := by simp
    clear h hln hn hl hi hc1 hrem hms
    go_enter Try.func29, Try.ntmps29
    go_wp2_with (first
      | (go_at_call 89
         refine (len_any _ _ _ _).mono ?_
         rintro en w1' ⟨rfl, rfl⟩)
      | (go_at_call 92
         refine HQ.out.mono ?_
         rintro en w3 ⟨rfl, v3, hB3, hE3, hF3, hR3⟩
         rw [HLN.out, Nat.add_sub_cancel] at hE3)
      | fail)
    go_ret
    rw [HR.out]
    exact ⟨⟨_, rfl⟩, v3, ⟨hB3, hE3⟩, hF3.mono (fun k _ hk => .inl hk), fun k hk => .inl (hR3 k hk)⟩
  · have hnq : ((n : Int) != (i : Int)) = true := by rw [bne_iff_ne]; omega
    have hrem : Hp.removeL ltE l i = if i < (Hp.downL ltE l.length (Hp.swapL l i n) i n).2 then (Hp.downL ltE l.length (Hp.swapL l i n) i n).1.take n else (Hp.upL ltE l.length (Hp.downL ltE l.length (Hp.swapL l i n) i n).1 i).take n := by
      unfold Hp.removeL; rw [if_neg (by omega), hn]
    obtain ⟨l1, hl1⟩ : ∃ l1, l1 = Hp.swapL l i n := ⟨_, rfl⟩
    have hl1l : l1.length = n + 1 := by rw [hl1, Hp.length_swapL, hln]
    obtain ⟨d, hd⟩ : ∃ d, d = Hp.downL ltE l.length l1 i n := ⟨_, rfl⟩
    have hdl : d.1.length = n + 1 := by rw [hd, Hp.length_downL, hl1l]
    rw [← hl1] at HS hrem
    rw [← hd] at hrem
    have H := Lib.hid h
    have HLN := Lib.hid hln
    have HD := Lib.hid hd
    have HL1 := Lib.hid hl1l
    have HDL := Lib.hid hdl
    rw [hln] at hv
    subst hv
    have hin' : i < n := by omega
    have HMP := Lib.hid hmp
    clear h hln hd hl1l hdl hl1 hn hl hi hc1 hmp
    by_cases hid : i < d.2
    · rw [if_pos hid] at hrem
      have HR := Lib.hid hrem
      have hdt : decide (i < d.2) = true := decide_eq_true hid
      clear hrem
      go_enter Try.func29, Try.ntmps29
      go_wp2_with (first
        | (go_at_call 89
           refine (len_any _ _ _ _).mono ?_
           rintro en w1' ⟨rfl, rfl⟩)
        | (go_at_call 91
           refine HS.out.mono ?_
           rintro en w1 ⟨rfl, hE1, hF1⟩
           have hX1 := H.out.row hF1 hE1
           have hU := down_any b l1 l.length i n (.slice A (n + 1) c) now w1 hX1.blk hX1.ents (by rw [HL1.out]; omega) (by rw [HL1.out]; omega) (by omega) (by rw [HLN.out]; omega)
           rw [← HD.out, hdt] at hU
           have HU := Lib.hid hU
           clear hU)
        | (go_at_call 40
           refine HU.out.mono ?_
           rintro en w2 ⟨rfl, hE2, hF2⟩
           have hX2 := hX1.row hF2 hE2
           have hmp := HMP.out w2
           have HQ := Lib.hid (pop_any b d.1 (.slice A (n + 1) c) now w2 hX2.blk hX2.ents (by rw [HDL.out]; omega) (by rw [HDL.out]; omega)))
        | (go_at_call 92
           refine HQ.out.mono ?_
           rintro en w3 ⟨rfl, v3, hB3, hE3, hF3, hR3⟩
           rw [HDL.out, Nat.add_sub_cancel] at hE3)
        | fail)
      go_ret
      rw [HR.out]
      exact ⟨⟨_, rfl⟩, v3, ⟨hB3, hE3⟩, ((row_foot hF1).trans (row_foot hF2)).trans (hF3.mono (fun k _ hk => .inl hk)), fun k hk => .inl (hR3 k hk)⟩
    · rw [if_neg hid] at hrem
      have HR := Lib.hid hrem
      have hdt : decide (i < d.2) = false := decide_eq_false hid
      have hul : (Hp.upL ltE l.length d.1 i).length = n + 1 := by rw [Hp.length_upL, HDL.out]
      have HUL := Lib.hid hul
      clear hrem hul
      go_enter Try.func29, Try.ntmps29
      go_wp2_with (first
        | (go_at_call 89
           refine (len_any _ _ _ _).mono ?_
           rintro en w1' ⟨rfl, rfl⟩)
        | (go_at_call 91
           refine HS.out.mono ?_
           rintro en w1 ⟨rfl, hE1, hF1⟩
           have hX1 := H.out.row hF1 hE1
           have hU := down_any b l1 l.length i n (.slice A (n + 1) c) now w1 hX1.blk hX1.ents (by rw [HL1.out]; omega) (by rw [HL1.out]; omega) (by omega) (by rw [HLN.out]; omega)
           rw [← HD.out, hdt] at hU
           have HU := Lib.hid hU
           clear hU)
        | (go_at_call 40
           refine HU.out.mono ?_
           rintro en w2 ⟨rfl, hE2, hF2⟩
           have hX2 := hX1.row hF2 hE2
           have HV := Lib.hid (up_any b d.1 l.length i (.slice A (n + 1) c) now w2 hX2.blk hX2.ents (by rw [HDL.out]; omega) (by rw [HDL.out]; omega) (by rw [HLN.out]; omega)))
        | (go_at_call 37
           refine HV.out.mono ?_
           rintro en w4 ⟨rfl, hE4, hF4⟩
           have hX4 := hX2.row hF4 hE4
           have hmp := HMP.out w4
           have HQ := Lib.hid (pop_any b (Hp.upL ltE l.length d.1 i) (.slice A (n + 1) c) now w4 hX4.blk hX4.ents (by rw [HUL.out]; omega) (by rw [HUL.out]; omega)))
        | (go_at_call 92
           refine HQ.out.mono ?_
           rintro en w3 ⟨rfl, v3, hB3, hE3, hF3, hR3⟩
           rw [HUL.out, Nat.add_sub_cancel] at hE3)
        | fail)
      go_ret
      rw [HR.out]
      exact ⟨⟨_, rfl⟩, v3, ⟨hB3, hE3⟩, (((row_foot hF1).trans (row_foot hF2)).trans (row_foot hF4)).trans (hF3.mono (fun k _ hk => .inl hk)), fun k hk => .inl (hR3 k hk)⟩
end Go.Proofs.Ytkagfnocpllcpaa
