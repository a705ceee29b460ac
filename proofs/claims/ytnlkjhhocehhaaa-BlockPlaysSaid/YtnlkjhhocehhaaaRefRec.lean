/- The reference's Record. -/
import Derived.Test.YtnlkjhhocehhaaaRec
import Derived.Test.YtnlkjhhocehhaaaRefOf
namespace Go.Proofs.Ytnlkjhhocehhaaa
set_option linter.unusedVariables false
open Go Go.RowKit Go.Proofs Sha
theorem rrecord_long (x : List UInt8) (A : Option Addr) (c : Nat) (w : World) (hl : 4000 < x.length) (hl2 : x.length ≤ maxLen) : Calls Try.prog 49 #[.slice A x.length c] w fun e w' => e = .returned (.tuple #[.slice none 0 0, .int .i64 4]) ∧ w = w' := by
  obtain ⟨n, hn⟩ : ∃ n, n = x.length := ⟨_, rfl⟩
  rw [← hn] at hl hl2 ⊢
  unfold maxLen at hl2
  have hd : decide ((4000 : Int) < (n : Int)) = true := decide_eq_true (by omega)
  have hd2 : decide (4000 < n) = true := decide_eq_true (by omega)
  clear hn
  go_enter Try.func49, Try.ntmps49
  go_wp2_with fail
  go_ret2
  exact ⟨rfl, rfl⟩
set_option maxRecDepth 100000 in
set_option maxHeartbeats 2000000 in
theorem rrecord_any (x : List UInt8) (A : Option Addr) (c : Nat) (w : World) (hl : x.length ≤ 4000) (hx : Bytes w A x) :
    Calls Try.prog 49 #[.slice A x.length c] w fun e w' => ∃ v, e = .returned (.tuple #[v, .int .i64 0]) ∧ Own w' 5 1 v (recB x).length (byteVals (recB x)) ∧ (∀ j, rowOf v j → w.heap.size ≤ j) ∧ Below w.heap.size w w' := by
  obtain ⟨i0, hi0, hz0, hz1, hz2⟩ := info_parts info5
  have HOF := Lib.hid (rof_any x A x.length c w rfl hx (by omega))
  have HX := Lib.hid hx
  obtain ⟨n, hn⟩ : ∃ n, n = x.length := ⟨_, rfl⟩
  rw [← hn] at hl HOF ⊢
  have HN := Lib.hid hn
  have hd : decide ((4000 : Int) < (n : Int)) = false := decide_eq_false (by omega)
  have hd2 : decide (4000 < n) = false := decide_eq_false (by omega)
  clear hn hx
  go_enter Try.func49, Try.ntmps49
  go_wp2_with (first
    | (with_reducible refine wpList_alloc_run rfl 25 rfl zeroOut alloc25 ?_)
    | (go_at_call 24
       refine HOF.out.mono ?_
       rintro e w2 ⟨rfl, hb2⟩
       have hf2 : Fr nob w w2 := Fr.of_below hb2 nob)
    | (refine wpList_store_blk rfl 25 (.tmp 4) (.tmp 10) rfl w2.heap.size 25 zeroOut (shaV x) rfl rfl (Blk.new w2 25 zeroOut) (zero_shaV _) (info_shaV _) (one_shaV _) ?_
       intro w3 hb3 hf3
       have hB3 : Below w.heap.size w w3 := ((hf2.alloc (.cells zeroOut 25)).then hf3 (fun i hi => Or.inr (by have := hf2.size; unfold one at hi; omega)) : Fr nob w w3).below_nob
       obtain ⟨wA, hwA⟩ : ∃ wA, w3.alloc (.cells #[Value.int IntKind.u8 ((n : Int) % 256), Value.int IntKind.u8 ((n : Int) / 256)] 5) = wA := ⟨_, rfl⟩
       have hBA : Below w3.heap.size w3 wA := by rw [← hwA]; exact (Below.refl _ w3).alloc (Nat.le_refl _) _
       have ho : Own wA 5 1 (.slice (some ⟨w3.heap.size, 0, none⟩) 2 2) 2 [Value.int IntKind.u8 ((n : Int) % 256), Value.int IntKind.u8 ((n : Int) / 256)] :=
         ⟨rfl, .inr ⟨_, 0, 2, _, rfl, by rw [← hwA]; exact Blk.new w3 5 _, by omega, by unfold maxLen; omega, by simp, fun j u hj => by rw [Nat.zero_add]; simpa using hj⟩⟩
       have hs : Bytes wA (some ⟨w2.heap.size, 0, none⟩) ((sha x).take 4) := ((bytes_shaV hb3).keep hBA).take 4
       have hs4 : Src wA 1 (some ⟨w2.heap.size, 0, none⟩) 4 (byteVals ((sha x).take 4)) := by
         unfold Bytes at hs
         rwa [show ((sha x).take 4).length = 4 by rw [List.length_take, length_sha]; rfl] at hs
       have HO := Lib.hid ho
       have HS := Lib.hid hs4
       have hbA := hB3.trans (hBA.mono hB3.size)
       have HBA := Lib.hid hbA
       have hxA := HX.out.keep hbA
       have HXA := Lib.hid hxA
       have hs3 := hB3.size
       have HS3 := Lib.hid hs3
       have hsA := hBA.size
       have HSA := Lib.hid hsA
       clear hs3 hsA ho hs hs4 hbA hxA hBA hB3 hb3 hf3 hb2 hf2
       simp only [Act.put, List.setIfInBounds_toArray, List.set_cons_zero, List.set_cons_succ])
    | simp only [hwA]
    | (refine wpList_append_o _ rfl (.tmp 19) (.tmp 20) 22 rfl 5 i0 (.int .u8 0) 1 1 Try.underlying22 hi0 hz0 hz1 hz2 (by rfl) (by omega) (.slice (some ⟨w3.heap.size, 0, none⟩) 2 2) 2 _ (by rfl) HO.out (some ⟨w2.heap.size, 0, none⟩) 4 32 (byteVals ((sha x).take 4)) (by rfl) HS.out (byteVals_one _) (by simp only [maxLen]; omega) (by omega) ?_
       intro v4 w4 ho4 hf4 hr4
       have HO4 := Lib.hid ho4
       have HF4 := Lib.hid hf4
       have HR4 := Lib.hid hr4
       have hx4 : Src w4 1 A n (byteVals x) := by
         have := Src.fr HXA.out hf4 (fun g o _ hA hk => by
           obtain ⟨g', o', e, hg', -⟩ := HX.out.2 (by assumption)
           rw [hA] at e
           injection e with e
           injection e with e
           have h3 : w3.heap.size = g := by simpa [rowOf, Value.ownBlock] using hk
           have := HS3.out
           omega)
         rwa [← HN.out] at this
       have HX4 := Lib.hid hx4
       clear ho4 hf4 hr4 hx4
       simp only [Act.put, List.setIfInBounds_toArray, List.set_cons_zero, List.set_cons_succ])
    | (refine wpList_append_o _ rfl (.tmp 22) (.tmp 23) 22 rfl 5 i0 (.int .u8 0) 1 1 Try.underlying22 hi0 hz0 hz1 hz2 (by rfl) (by omega) v4 6 _ (by rfl) HO4.out A n c (byteVals x) (by rfl) HX4.out (byteVals_one _) (by simp only [maxLen]; omega) (by omega) ?_
       intro v5 w5 ho5 hf5 hr5
       simp only [Act.put, List.setIfInBounds_toArray, List.set_cons_zero, List.set_cons_succ])
    | fail)
  go_ret2
  have e : [Value.int IntKind.u8 ((n : Int) % 256), Value.int IntKind.u8 ((n : Int) / 256)] ++ byteVals ((sha x).take 4) ++ byteVals x = byteVals (recB x) := by
    unfold recB
    rw [byteVals_append, byteVals_append]
    congr 2
    rw [← HN.out]
    show _ = [Value.int .u8 (n8 _), Value.int .u8 (n8 _)]
    have e0 : ((n : Int) % 256) = n8 (UInt8.ofNat (n % 256)) := by unfold n8; rw [UInt8.toNat_ofNat_of_lt' (by show _ < 256; omega)]; omega
    have e1 : ((n : Int) / 256) = n8 (UInt8.ofNat (n / 256)) := by unfold n8; rw [UInt8.toNat_ofNat_of_lt' (by show _ < 256; omega)]; omega
    rw [e0, e1]
  rw [e, show 6 + n = (recB x).length by rw [length_recB, ← HN.out]] at ho5
  have g3 : ∀ k, rowOf (.slice (some ⟨w3.heap.size, 0, none⟩) 2 2) k → w.heap.size ≤ k := fun k hk => by
    have h3 : w3.heap.size = k := by simpa [rowOf, Value.ownBlock] using hk
    have := HS3.out
    omega
  have g4 : ∀ k, rowOf v4 k → w.heap.size ≤ k := fun k hk => by
    rcases HR4.out k hk with h | h
    · exact g3 k h
    · have := HS3.out; have := HSA.out; omega
  have g5 : ∀ k, rowOf v5 k → w.heap.size ≤ k := fun k hk => by
    rcases hr5 k hk with h | h
    · exact g4 k h
    · have := HS3.out; have := HSA.out; have := HF4.out.size; omega
  have b4 : Below w.heap.size w w4 := HBA.out.trans (HF4.out.below HBA.out.size g3)
  exact ⟨v5, rfl, ho5, g5, b4.trans (hf5.below b4.size g4)⟩
end Go.Proofs.Ytnlkjhhocehhaaa
