/- lives. -/
import Derived.Test.YtnlkjhhocehhaaaNewD
import Derived.Test.YtnlkjhhocehhaaaPart
import Derived.Test.YtnlkjhhocehhaaaRecLaw
import Derived.Test.YtnlkjhhocehhaaaHeader
import Derived.Test.YtnlkjhhocehhaaaBack
namespace Go.Proofs.Ytnlkjhhocehhaaa
set_option linter.unusedVariables false
open Go Go.RowKit Go.Proofs Sha
theorem conv1 (b : Int) (W : World) : (convert 22 22 (.slice (some ⟨W.heap.size, 0, none⟩) 1 1)).run Try.prog (W.alloc (.cells #[.int .u8 b] 5)) = .ok (.slice (some ⟨W.heap.size, 0, none⟩) 1 1) (W.alloc (.cells #[.int .u8 b] 5 (1, 2))) :=
  Go.Lib.run_convert_bytes_const (P := Try.prog) W 22 5 #[.int .u8 b] 1 1 Try.underlying22 Try.underlying5
theorem bs1 (b : Int) (W : World) : (Instr.buildSlice 22 1 #[(0, .int .u8 b)]).run Try.prog W = .ok (.slice (some ⟨W.heap.size, 0, none⟩) 1 1) (W.alloc (.cells #[.int .u8 b] 5)) := by kernel_rfl
theorem build73 (r : Int) (a : Option Addr) (n c : Nat) (W : World) : (Instr.build 73 #[(0, .int .i64 r), (1, .slice a n c)]).run Try.prog W = .ok (.agg #[.int .i64 r, .slice a n c]) W := by kernel_rfl
theorem bs62_3 (a b c d e f : Value) (W : World) : (Instr.buildSlice 62 3 #[(0, .agg #[a, b]), (1, .agg #[c, d]), (2, .agg #[e, f])]).run Try.prog W = .ok (.slice (some ⟨W.heap.size, 0, none⟩) 3 3) (W.alloc (.cells #[a, b, c, d, e, f] 73)) := by kernel_rfl
theorem lives_rooms (A B C : Option Addr) : ((isortL [⟨0, A, 1, [97]⟩, ⟨1, B, 1, [98]⟩, ⟨0, C, 1, [99]⟩]).foldl (partStep 0 1 3) (emptyD 2, 0)).1 = [recB [97] ++ (recB [99]).take 3, []] := by
  have h : isortL [⟨0, A, 1, [97]⟩, ⟨1, B, 1, [98]⟩, ⟨0, C, 1, [99]⟩] = [⟨0, A, 1, [97]⟩, ⟨0, C, 1, [99]⟩, ⟨1, B, 1, [98]⟩] := rfl
  rw [h]
  have h1 : (recB [97]).take 4006 = recB [97] := recB_all _ (by simp)
  have h2 : (min (max (3 : Int) 0) 6).toNat = 3 := by decide
  have h3 : (1 : Int) = max 1 0 := by decide
  simp only [partStep, putT, tornN, emptyD, List.foldl]
  simp [h1, h2, ← h3]
theorem lives_may (A B C : Option Addr) : mayD false ((emptyD 2).map List.length) [⟨0, A, 1, [97]⟩, ⟨1, B, 1, [98]⟩, ⟨0, C, 1, [99]⟩] = 0 := rfl
theorem LLs.at_ {P : Nat → Prop} {w : World} {v : Value} {ll : List (List (List UInt8))} (h : LLs P w v ll) (i : Nat) (hi : i < ll.length) : ∃ g o cap u, v = .slice (some ⟨g, o, none⟩) ll.length cap ∧ w.cell? ⟨g, o + i, none⟩ = some u ∧ LsP P w u (ll.getD i []) := by
  obtain ⟨us, h1, h2, h3, h4⟩ := h
  rcases h2.2 with ⟨_, h0⟩ | ⟨g, o, cap, cur, rfl, hb, hc, hm, hfit, hx⟩
  · omega
  · refine ⟨g, o, cap, us.getD i undef, rfl, ?_, h4 i hi⟩
    rw [hb.cell]
    exact hx i _ (by simp [h1, hi])
set_option maxRecDepth 100000 in
set_option maxHeartbeats 4000000 in
theorem lives_part {w w1 : World} (hD : Dk w w1 (w.heap.size + 1) w.heap.size 2 (List.replicate 2 (Value.slice none 0 0)) (emptyD 2) false) (W : World)
    (hW : W = (((w1.alloc (.cells #[.int .u8 97] 5 (1, 2))).alloc (.cells #[.int .u8 98] 5 (1, 2))).alloc (.cells #[.int .u8 99] 5 (1, 2))).alloc (.cells #[.int .i64 0, .slice (some ⟨w1.heap.size, 0, none⟩) 1 1, .int .i64 1, .slice (some ⟨w1.heap.size + 1, 0, none⟩) 1 1, .int .i64 0, .slice (some ⟨w1.heap.size + 2, 0, none⟩) 1 1] 73)) :
    Calls Try.prog 55 #[dP (w.heap.size + 1), .slice (some ⟨w1.heap.size + 3, 0, none⟩) 3 3, .int .i64 0, .int .i64 1, .int .i64 3] W fun e W' => e = .returned (.int .i64 0) ∧ ∃ vs, Dk w W' (w.heap.size + 1) w.heap.size 2 vs [recB [97] ++ (recB [99]).take 3, []] true := by
  subst hW
  have hlt := hD.blk.lt
  have harr := hD.arr.lt
  have hfoot : ∀ k, dfoot (w.heap.size + 1) w.heap.size 2 (List.replicate 2 (Value.slice none 0 0)) k → k < w1.heap.size := by
    rintro k (rfl | rfl | ⟨i, hi, hk⟩)
    · exact hlt
    · exact harr
    · rw [show (List.replicate 2 (Value.slice none 0 0)).getD i undef = .slice none 0 0 by
        rcases i with _ | _ | i
        · rfl
        · rfl
        · omega] at hk
      cases hk
  obtain ⟨W1, h1⟩ : ∃ W1, W1 = w1.alloc (.cells #[.int .u8 97] 5 (1, 2)) := ⟨_, rfl⟩
  obtain ⟨W2, h2⟩ : ∃ W2, W2 = W1.alloc (.cells #[.int .u8 98] 5 (1, 2)) := ⟨_, rfl⟩
  obtain ⟨W3, h3⟩ : ∃ W3, W3 = W2.alloc (.cells #[.int .u8 99] 5 (1, 2)) := ⟨_, rfl⟩
  have s1 : W1.heap.size = w1.heap.size + 1 := by rw [h1]; simp
  have s2 : W2.heap.size = w1.heap.size + 2 := by rw [h2]; simp [s1]
  have s3 : W3.heap.size = w1.heap.size + 3 := by rw [h3]; simp [s2]
  rw [← h1, ← h2, ← h3]
  obtain ⟨W4, h4⟩ : ∃ W4, W4 = W3.alloc (.cells #[.int .i64 0, .slice (some ⟨w1.heap.size, 0, none⟩) 1 1, .int .i64 1, .slice (some ⟨w1.heap.size + 1, 0, none⟩) 1 1, .int .i64 0, .slice (some ⟨w1.heap.size + 2, 0, none⟩) 1 1] 73) := ⟨_, rfl⟩
  have b1 : Below w1.heap.size w1 W1 := by rw [h1]; exact (Below.refl _ _).alloc (Nat.le_refl _) _
  have b2 : Below W1.heap.size W1 W2 := by rw [h2]; exact (Below.refl _ _).alloc (Nat.le_refl _) _
  have b3 : Below W2.heap.size W2 W3 := by rw [h3]; exact (Below.refl _ _).alloc (Nat.le_refl _) _
  have b4 : Below W3.heap.size W3 W4 := by rw [h4]; exact (Below.refl _ _).alloc (Nat.le_refl _) _
  have y1 : Bytes W1 (some ⟨w1.heap.size, 0, none⟩) [97] := by rw [h1]; exact bytes_marked [97] (1, 2)
  have y2 : Bytes W2 (some ⟨w1.heap.size + 1, 0, none⟩) [98] := by rw [h2, ← s1]; exact bytes_marked [98] (1, 2)
  have y3 : Bytes W3 (some ⟨w1.heap.size + 2, 0, none⟩) [99] := by rw [h3, ← s2]; exact bytes_marked [99] (1, 2)
  have hsrc : Src W4 2 (some ⟨w1.heap.size + 3, 0, none⟩) 3 (wsC [⟨0, some ⟨w1.heap.size, 0, none⟩, 1, [97]⟩, ⟨1, some ⟨w1.heap.size + 1, 0, none⟩, 1, [98]⟩, ⟨0, some ⟨w1.heap.size + 2, 0, none⟩, 1, [99]⟩]) := by
    refine ⟨rfl, fun _ => ⟨_, _, rfl, by rw [h4]; simp; omega, fun j u hj => ?_⟩⟩
    rw [Nat.zero_add, h4, ← s3]
    rw [(Blk.new W3 73 _).cell]
    simpa [wsC, wrC, Wr.u] using hj
  have hD4 := ((((hD.keep b1).keep b2).keep b3).keep b4)
  rw [← h4]
  have hP := part_any hD4 (by omega) (some ⟨w1.heap.size + 3, 0, none⟩) 3 3 [⟨0, some ⟨w1.heap.size, 0, none⟩, 1, [97]⟩, ⟨1, some ⟨w1.heap.size + 1, 0, none⟩, 1, [98]⟩, ⟨0, some ⟨w1.heap.size + 2, 0, none⟩, 1, [99]⟩]
    ⟨⟨rfl, by omega, by decide, (fun h => by cases h), hsrc⟩, (fun _ g o s h hf => by cases h; have := hfoot _ hf; omega), fun e he => by
      simp only [List.mem_cons, List.not_mem_nil, or_false] at he
      rcases he with rfl | rfl | rfl
      · exact ⟨by simp, (by show 1 ≤ maxLen; decide), (fun h => by cases h), ((y1.keep b2).keep b3).keep b4, fun _ g o s h hf => by cases h; have := hfoot _ hf; omega⟩
      · exact ⟨by simp, (by show 1 ≤ maxLen; decide), (fun h => by cases h), (y2.keep b3).keep b4, fun _ g o s h hf => by cases h; have := hfoot _ hf; omega⟩
      · exact ⟨by simp, (by show 1 ≤ maxLen; decide), (fun h => by cases h), y3.keep b4, fun _ g o s h hf => by cases h; have := hfoot _ hf; omega⟩⟩ (by omega)
    (fun e he => by
      simp only [List.mem_cons, List.not_mem_nil, or_false] at he
      rcases he with rfl | rfl | rfl <;> simp) (fun i => by rcases i with _ | _ | i <;> simp [emptyD]) 0 1 3
  simp only [lives_may, lives_rooms, ↓reduceIte] at hP
  refine hP.mono ?_
  rintro e W' ⟨rfl, vs, h, -, -⟩
  exact ⟨rfl, vs, h⟩
theorem emptyMay (l : List Nat) : mayD true l [] = 13 := rfl
theorem lives_scan1 : scanB (recB [97] ++ (recB [99]).take 3) = ([[97]], 7) := by
  have := scan_recs [[97]] ((recB [99]).take 3) (by simp) (nextB_torn [99] 3 (by simp) (by simp))
  rw [recs_cons, recs_nil, List.append_nil] at this
  rw [this, length_recB]; rfl
theorem lives_cut1 : cutB (recB [97] ++ (recB [99]).take 3) = recB [97] := by
  unfold cutB
  rw [lives_scan1]
  exact List.take_left' (length_recB _)
theorem scanB_nil : scanB [] = ([], 0) := scanB_none nextB_nil
theorem cutB_nil : cutB [] = [] := rfl
theorem WsA.nil (W : World) (F : Nat → Prop) : WsA W F none 0 0 [] := ⟨⟨rfl, Nat.le_refl _, by decide, fun _ => rfl, ⟨rfl, fun h => by omega⟩⟩, (fun _ g o s h => by cases h), fun e he => by cases he⟩
theorem lives_len (i : Nat) : (([recB [97] ++ (recB [99]).take 3, []] : List (List UInt8)).getD i []).length ≤ 60000 := by
  rcases i with _ | _ | i
  · show (recB [97] ++ (recB [99]).take 3).length ≤ _
    rw [List.length_append, List.length_take, length_recB, length_recB]; simp
  · simp
  · simp
set_option maxRecDepth 100000 in
set_option maxHeartbeats 4000000 in
theorem lives_any (w : World) : Calls Try.prog 44 #[] w fun e w' => e = .returned (.bool true) ∧ Below w.heap.size w w' := by
  have HN := Lib.hid (newD_any 2 2 (by decide) w)
  go_enter Try.func44, Try.ntmps44
  go_wp2_with (first
    | (go_at_call 50
       refine HN.out.mono ?_
       rintro e w1 ⟨rfl, hD⟩
       have k97 := bs1 97 w1
       have h97 := conv1 97 w1
       have k98 := bs1 98 (w1.alloc (.cells #[.int .u8 97] 5 (1, 2)))
       have h98 := conv1 98 (w1.alloc (.cells #[.int .u8 97] 5 (1, 2)))
       have k99 := bs1 99 ((w1.alloc (.cells #[.int .u8 97] 5 (1, 2))).alloc (.cells #[.int .u8 98] 5 (1, 2)))
       have h99 := conv1 99 ((w1.alloc (.cells #[.int .u8 97] 5 (1, 2))).alloc (.cells #[.int .u8 98] 5 (1, 2)))
       simp only [World.size_alloc] at k98 h98 k99 h99
       have HD := Lib.hid hD
       clear hD)
    | (go_at_call 55
       refine (lives_part HD.out _ rfl).mono ?_
       rintro e w2 ⟨rfl, vs2, hD2⟩
       clear k97 h97 k98 h98 k99 h99
       have HW := Lib.hid (write_any hD2 (by omega) none 0 0 [] (WsA.nil _ _) (by simp) (fun e he => by cases he) lives_len)
       rw [emptyMay, if_neg (by decide)] at HW
       clear hD2)
    | (go_at_call 52
       refine HW.out.mono ?_
       rintro e w3 ⟨rfl, vs3, hD3, -, -⟩
       have HU := Lib.hid (up_any hD3 (by omega) (fun i => Nat.le_trans (lives_len i) (by omega)))
       simp only [List.map_cons, List.map_nil, lives_scan1, lives_cut1, scanB_nil, cutB_nil] at HU
       clear hD3)
    | (go_at_call 57
       go_loud (
       refine HU.out.mono ?_
       rintro e w4 ⟨v4, rfl, hL4, vs4, hD4, -, -⟩
       obtain ⟨g4, o4, c4, u0, hv4, hc0, hL0⟩ := hL4.at_ 0 (by simp)
       obtain ⟨g4', o4', c4', u1, hv4', hc1, hL1⟩ := hL4.at_ 1 (by simp)
       rw [hv4] at hv4'
       injection hv4' with e1 e2 e3
       injection e1 with e1
       injection e1 with e1 e4
       subst e1 e4 e3 hv4
       obtain ⟨g5, o5, c5, A5, c6, hu0, hg5, hc5, hb5, -, -, -⟩ := hL0.ls.at_ 0 (by simp)
       subst hu0
       obtain ⟨A6, c7, hu1, -, -⟩ := hL1.ls.shape
       subst hu1
       have hbk := back_text w4 A5 1 c6 [97] rfl hb5
       have HSZ := Lib.hid (size_any hD4 0 (by omega) (by omega))
       have HBR := Lib.hid (broken_any hD4)
       have hbel := hD4.bel
       have HBEL := Lib.hid hbel
       rw [show (([recB [97], []] : List (List UInt8)).getD 0 []).length = 7 by rw [show (([recB [97], []] : List (List UInt8)).getD 0 []) = recB [97] from rfl, length_recB]; rfl] at HSZ
       have e2' : ([[[97]], []] : List (List (List UInt8))).length = 2 := rfl
       have e3' : (([[[97]], []] : List (List (List UInt8))).getD 0 []).length = 1 := rfl
       have e4' : (([[[97]], []] : List (List (List UInt8))).getD 1 []).length = 0 := rfl
       have e5' : ((([[[97]], []] : List (List (List UInt8))).getD 0 []).getD 0 []).length = 1 := rfl
       simp only [e2', e3', e4', e5', Nat.add_zero] at hc0 hc1 hc5 ⊢
       clear hL4 hD4 hL0 hL1 hb5 hbel e2' e3' e4' e5'))
    | (go_at_call 53
       refine HSZ.out.mono ?_
       rintro e w5 ⟨rfl, rfl⟩)
    | (go_at_call 56
       refine HBR.out.mono ?_
       rintro e w5 ⟨rfl, rfl⟩)
    | simp only [hbk]
    | simp only [h97, h98, h99, k97, k98, k99, build73, bs62_3]
    | fail)
  go_ret
  exact ⟨rfl, HBEL.out⟩
end Go.Proofs.Ytnlkjhhocehhaaa
