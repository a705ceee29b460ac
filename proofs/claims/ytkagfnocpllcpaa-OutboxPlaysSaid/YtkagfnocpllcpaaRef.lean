/- The document's box: its small functions. -/
import Derived.Test.YtkagfnocpllcpaaStep
namespace Go.Proofs.Ytkagfnocpllcpaa
set_option linter.unusedVariables false
open Go Go.RowKit Go.Proofs
/-! ### Ahead -/
theorem bl_drop : ∀ (a b : List UInt8) (i : Nat), i ≤ a.length → i ≤ b.length → (∀ j, j < i → a.getD j 0 = b.getD j 0) → Op.bytesLess a b = Op.bytesLess (a.drop i) (b.drop i)
  | _, _, 0, _, _, _ => rfl
  | [], _, i + 1, h, _, _ => by simp at h
  | _ :: _, [], i + 1, _, h, _ => by simp at h
  | x :: a, y :: b, i + 1, h1, h2, h => by
    have h0 := h 0 (by omega)
    have e : x = y := by simpa using h0
    subst e
    rw [Op.bytesLess, List.drop_succ_cons, List.drop_succ_cons, ← bl_drop a b i (by simpa using h1) (by simpa using h2) (fun j hj => by simpa using h (j + 1) (by omega))]
    simp
theorem bl_at (a b : List UInt8) (i : Nat) (h1 : i < a.length) (h2 : i < b.length) (h : ∀ j, j < i → a.getD j 0 = b.getD j 0) (hne : ¬ a.getD i 0 = b.getD i 0) : Op.bytesLess a b = decide (a.getD i 0 < b.getD i 0) := by
  rw [bl_drop a b i (by omega) (by omega) h, List.drop_eq_getElem_cons h1, List.drop_eq_getElem_cons h2, Op.bytesLess]
  have e1 : a.getD i 0 = a[i] := by simp [h1]
  have e2 : b.getD i 0 = b[i] := by simp [h2]
  rw [e1, e2] at hne ⊢
  have : (a[i] == b[i]) = false := by simpa using hne
  simp [this]
theorem bl_end (a b : List UInt8) (i : Nat) (h1 : i ≤ a.length) (h2 : i ≤ b.length) (h : ∀ j, j < i → a.getD j 0 = b.getD j 0) (he : i = a.length ∨ i = b.length) : Op.bytesLess a b = decide (a.length < b.length) := by
  rw [bl_drop a b i h1 h2 h]
  rcases he with he | he
  · rw [List.drop_of_length_le (by omega)]
    by_cases hb : i < b.length
    · rw [List.drop_eq_getElem_cons hb]; simp [Op.bytesLess]; omega
    · rw [List.drop_of_length_le (by omega)]; simp [Op.bytesLess]; omega
  · rw [List.drop_of_length_le (l := b) (by omega)]
    have : ∀ l : List UInt8, Op.bytesLess l [] = false := fun l => by cases l <;> rfl
    rw [this]; simp; omega
set_option maxRecDepth 100000 in
set_option maxHeartbeats 2000000 in
theorem ahead6_any (a b : ByteArray) (ha : a.size ≤ 100) (hb : b.size ≤ 100) (w : World) : Calls Try.prog 66 #[.string a, .string b] w fun e w' => e = .returned (.bool (ltS a b)) ∧ Below w.heap.size w w' := by
  go_enter Try.func66, Try.ntmps66
  go_wp2_with fail
  go_loopw [5] (fun c5 wr => ∃ i : Nat, i ≤ a.size ∧ i ≤ b.size ∧ c5 = .int .i64 (i : Int) ∧ (∀ j, j < i → a.toList.getD j 0 = b.toList.getD j 0) ∧ Below w.heap.size w wr) (fun c5 _ => a.size - (intOf c5).toNat)
  case atStart => exact ⟨0, by omega, by omega, rfl, fun j hj => by omega, Below.refl _ _⟩
  case round =>
    obtain ⟨i, hi1, hi2, rfl, he, hB⟩ := hrel
    have HE := Lib.hid he
    have HB := Lib.hid hB
    clear he hB
    by_cases h1 : i < a.size
    · have hd1 : decide ((i : Int) < (a.size : Int)) = true := decide_eq_true (by omega)
      by_cases h2 : i < b.size
      · have hd2 : decide ((i : Int) < (b.size : Int)) = true := decide_eq_true (by omega)
        have h0 : (0 : Int) ≤ (i : Int) := by omega
        have ea : a.toList.getD i 0 = a[i] := by rw [ByteArray.toList_eq]; simp [h1]; rfl
        have eb : b.toList.getD i 0 = b[i] := by rw [ByteArray.toList_eq]; simp [h2]; rfl
        have hl1 : a.toList.length = a.size := by rw [ByteArray.toList_eq]; simp
        have hl2 : b.toList.length = b.size := by rw [ByteArray.toList_eq]; simp
        by_cases hq : a[i] = b[i]
        · have hne : (((a[i].toNat : Nat) : Int) != ((b[i].toNat : Nat) : Int)) = false := by rw [hq]; simp
          have HE2 : Hid (∀ j, j < i + 1 → a.toList.getD j 0 = b.toList.getD j 0) := Lib.hid (fun j hj => by
            rcases Nat.lt_or_ge j i with h | h
            · exact HE.out j h
            · obtain rfl : j = i := by omega
              rw [ea, eb, hq])
          clear ea eb hl1 hl2 hq
          go_wp2_with fail
          refine wp_region_quiet_below (by kernel_rfl) (by kernel_rfl) ?_
          repeat (go_big_quiet_step (fail))
          refine wpQuiet_nil ?_
          intro w2 hw2
          have hb2 := Re.below hw2
          clear hw2
          go_wp2_with fail
          go_roundw
          case rel => exact ⟨i + 1, by omega, by omega, by go_num, HE2.out, HB.out.trans (hb2.mono HB.out.size)⟩
          case measure => simp [intOf]; omega
        · have hne : (((a[i].toNat : Nat) : Int) != ((b[i].toNat : Nat) : Int)) = true := by
            rw [bne_iff_ne, ne_eq, Int.natCast_inj]
            exact fun h => hq (UInt8.toNat_inj.1 h)
          have HR : Hid (decide (((a[i].toNat : Nat) : Int) < ((b[i].toNat : Nat) : Int)) = ltS a b) := Lib.hid (by
            unfold ltS
            rw [bl_at a.toList b.toList i (by omega) (by omega) HE.out (by rw [ea, eb]; exact hq), ea, eb]
            congr 1
            rw [Int.ofNat_lt, UInt8.lt_iff_toNat_lt])
          clear ea eb hl1 hl2 hq
          go_wp2_with fail
          refine wp_region_quiet_below (by kernel_rfl) (by kernel_rfl) ?_
          repeat (go_big_quiet_step (fail))
          refine wpQuiet_nil ?_
          intro w2 hw2
          have hb2 := Re.below hw2
          clear hw2
          go_wp2_with fail
          refine wp_region_quiet_below (by kernel_rfl) (by kernel_rfl) ?_
          repeat (go_big_quiet_step (fail))
          refine wpQuiet_nil ?_
          intro w3 hw3
          have hb3 := Re.below hw3
          clear hw3
          go_wp2_with fail
          go_ret
          have hB2 := HB.out.trans (hb2.mono HB.out.size)
          refine ⟨?_, hB2.trans (hb3.mono hB2.size)⟩
          have := HR.out
          simp only [Int.ofNat_lt] at this ⊢
          rw [← this]
          rfl
      · obtain rfl : i = b.size := by omega
        have hd2 : decide ((b.size : Int) < (b.size : Int)) = false := decide_eq_false (by omega)
        have HR : Hid (decide ((a.size : Int) < (b.size : Int)) = ltS a b) := Lib.hid (by
          have hl1 : a.toList.length = a.size := by rw [ByteArray.toList_eq]; simp
          have hl2 : b.toList.length = b.size := by rw [ByteArray.toList_eq]; simp
          unfold ltS
          rw [bl_end a.toList b.toList b.size (by omega) (by omega) HE.out (.inr hl2.symm), hl1, hl2]
          congr 1
          rw [Int.ofNat_lt])
        go_wp2_with fail
        go_ret
        have := HR.out
        refine ⟨?_, HB.out⟩
        simp only [Int.ofNat_lt] at this ⊢
        rw [← this]
        rfl
    · obtain rfl : i = a.size := by omega
      have hd1 : decide ((a.size : Int) < (a.size : Int)) = false := decide_eq_false (by omega)
      have HR : Hid (decide ((a.size : Int) < (b.size : Int)) = ltS a b) := Lib.hid (by
        have hl1 : a.toList.length = a.size := by rw [ByteArray.toList_eq]; simp
        have hl2 : b.toList.length = b.size := by rw [ByteArray.toList_eq]; simp
        unfold ltS
        rw [bl_end a.toList b.toList a.size (by omega) (by omega) HE.out (.inl hl1.symm), hl1, hl2]
        congr 1
        rw [Int.ofNat_lt])
      go_wp2_with fail
      go_ret
      have := HR.out
      refine ⟨?_, HB.out⟩
      simp only [Int.ofNat_lt] at this ⊢
      rw [← this]
      rfl
set_option maxRecDepth 100000 in
set_option maxHeartbeats 2000000 in
theorem ahead_any (x y : E) (ha : x.id.size ≤ 100) (hb : y.id.size ≤ 100) (w : World) : Calls Try.prog 55 #[entV x, entV y] w fun e w' => e = .returned (.bool (ltE x y)) ∧ Below w.heap.size w w' := by
  have HL := Lib.hid (ltE_iff x y)
  have HA := Lib.hid (fun w => ahead6_any x.id y.id ha hb w)
  obtain ⟨i, bo, d, t, p⟩ := x
  obtain ⟨i', bo', d', t', p'⟩ := y
  simp only at HL HA
  have hB2 := (((Below.refl _ w).alloc (Nat.le_refl _) (.cells (entL ⟨i, bo, d, t, p⟩).toArray 54)).alloc (by simp) (.cells (entL ⟨i', bo', d', t', p'⟩).toArray 54))
  have HB2 := Lib.hid hB2
  clear hB2
  by_cases h1 : d = d'
  · subst h1
    by_cases h2 : p = p'
    · subst h2
      have HR : Hid (ltS i i' = ltE ⟨i, bo, d, t, p⟩ ⟨i', bo', d, t', p⟩) := Lib.hid (by rw [Bool.eq_iff_iff, HL.out]; simp)
      unfold entV entL
      go_enter Try.func55, Try.ntmps55
      go_wp2_with (first
        | (go_at_call 66
           refine (HA.out _).mono ?_
           rintro e w2 ⟨rfl, hb2⟩)
        | fail)
      go_ret
      refine ⟨by have := HR.out; rw [← this]; rfl, HB2.out.trans (hb2.mono HB2.out.size)⟩
    · have hne : (p != p') = true := by simpa using h2
      have HR : Hid (decide (p < p') = ltE ⟨i, bo, d, t, p⟩ ⟨i', bo', d, t', p'⟩) := Lib.hid (by rw [Bool.eq_iff_iff, HL.out, decide_eq_true_eq]; simp [h2])
      unfold entV entL
      go_enter Try.func55, Try.ntmps55
      go_wp2_with fail
      go_ret
      refine ⟨by have := HR.out; rw [← this]; rfl, HB2.out⟩
  · have hne : (d != d') = true := by simpa using h1
    have HR : Hid (decide (d < d') = ltE ⟨i, bo, d, t, p⟩ ⟨i', bo', d', t', p'⟩) := Lib.hid (by rw [Bool.eq_iff_iff, HL.out, decide_eq_true_eq]; simp [h1])
    unfold entV entL
    go_enter Try.func55, Try.ntmps55
    go_wp2_with fail
    go_ret
    refine ⟨by have := HR.out; rw [← this]; rfl, HB2.out⟩
/-! ### The document's box -/
structure BoxR (w : World) (b : Nat) (v : Value) (l : List E) (now : Int) : Prop where
  blk : Blk w b 52 #[v, .int .i64 now]
  ents : EntsR w v l
abbrev rP (b : Nat) : Value := .pointer (some ⟨b, 0, none⟩)
theorem BoxR.keep {w w' : World} {b : Nat} {v : Value} {l : List E} {now : Int} (h : BoxR w b v l now) (hb : Below w.heap.size w w') : BoxR w' b v l now := ⟨h.blk.below hb h.blk.lt, h.ents.keep hb⟩
theorem BoxR.ne {w : World} {b : Nat} {v : Value} {l : List E} {now : Int} (h : BoxR w b v l now) : ¬ rowOf v b := Own.blk_ne h.ents h.blk (by decide)
/-- What a step leaves. -/
def RTo (b : Nat) (v : Value) (now : Int) (w : World) (l : List E) (w' : World) : Prop :=
  ∃ v', BoxR w' b v' l now ∧ Fr (one b) w w' ∧ ∀ k, rowOf v' k → rowOf v k ∨ w.heap.size ≤ k
set_option maxRecDepth 100000 in
set_option maxHeartbeats 2000000 in
theorem at_any (b : Nat) (v : Value) (l : List E) (now : Int) (id : ByteArray) (w : World) (h : BoxR w b v l now) (hl : l.length ≤ 10) :
    Calls Try.prog 47 #[rP b, .string id] w fun e w' => e = .returned (.int .i64 (findI l id)) ∧ w = w' := by
  obtain ⟨A, cap, hv, hc1, hc2⟩ := h.ents.shape
  have hcb : w.cell? ⟨b, 0, none⟩ = some v := h.blk.cell 0
  obtain ⟨n, hn⟩ : ∃ n, n = l.length := ⟨_, rfl⟩
  rw [← hn] at hv hc1 hl
  have H := Lib.hid h
  have HN := Lib.hid hn
  subst hv
  clear h hn
  go_enter Try.func47, Try.ntmps47
  go_wp2_with fail
  go_loopw [5] (fun c5 wr => ∃ k : Nat, k ≤ n ∧ c5 = .int .i64 (k : Int) ∧ findI l id = findFrom id (l.drop k) k ∧ w = wr) (fun c5 _ => n - (intOf c5).toNat)
  case atStart => exact ⟨0, by omega, rfl, rfl, rfl⟩
  case round =>
    obtain ⟨k, hk, rfl, hf, rfl⟩ := hrel
    by_cases hkn : k < n
    · have hd : decide ((k : Int) < (n : Int)) = true := decide_eq_true (by omega)
      have hdr := findFrom_drop id l k (by rw [← HN.out]; exact hkn)
      rw [hdr] at hf
      obtain ⟨g, o, cp, hvv, -, hg, hr⟩ := H.out.ents.at_ k (by rw [← HN.out]; exact hkn)
      simp only [Value.slice.injEq] at hvv
      obtain ⟨rfl, -, rfl⟩ := hvv
      have h0 : w.cell? ⟨g, o + k * 5, none⟩ = some (.string (l.getD k default).id) := hr 0 _ rfl
      obtain ⟨x, hx⟩ : ∃ x, x = l.getD k default := ⟨_, rfl⟩
      rw [← hx] at hf h0
      have hk0 : (0 : Int) ≤ (k : Int) := by omega
      have HF := Lib.hid hf
      clear hx hdr hr hf
      by_cases he : (x.id.toList == id.toList) = true
      · go_wp2_with fail
        go_ret
        exact ⟨by have := HF.out; rw [if_pos he] at this; rw [this]; rfl, rfl⟩
      · have he' : (x.id.toList == id.toList) = false := by simpa using he
        go_wp2_with fail
        go_roundw
        case rel => exact ⟨k + 1, by omega, by go_num, by have := HF.out; rw [if_neg he] at this; exact this, trivial⟩
        case measure => simp [intOf]; omega
    · obtain rfl : k = n := by omega
      have hd : decide ((k : Int) < (k : Int)) = false := decide_eq_false (by omega)
      rw [List.drop_of_length_le (by rw [← HN.out]; omega)] at hf
      have HF := Lib.hid hf
      clear hf
      go_wp2_with fail
      go_ret
      exact ⟨by have := HF.out; rw [this]; rfl, rfl⟩
theorem Src.part {w : World} {v : Value} {l : List E} {g o cap n : Nat} (h : EntsR w v l) (hv : v = .slice (some ⟨g, o, none⟩) l.length cap) (i : Nat) (m : List E) (hm : ∀ j, j < m.length → i + j < l.length ∧ m.getD j default = l.getD (i + j) default) (hn : n = m.length) : Src w 5 (some ⟨g, o + i * 5, none⟩) n (qC m) := by
  refine ⟨by rw [length_qC, hn], fun h0 => ⟨g, o + i * 5, rfl, ?_, fun j u hj => ?_⟩⟩
  · obtain ⟨g', o', c', hv', -, hg, -⟩ := h.at_ i (by have := (hm 0 (by omega)).1; omega)
    rw [hv] at hv'
    simp only [Value.slice.injEq, Option.some.injEq, Addr.mk.injEq] at hv'
    obtain ⟨⟨rfl, -⟩, -⟩ := hv'
    exact hg
  · have hjl := (List.getElem?_eq_some_iff.1 hj).1
    rw [length_qC] at hjl
    obtain ⟨hlt, he⟩ := hm (j / 5) (by omega)
    obtain ⟨g', o', c', hv', -, hg, hr⟩ := h.at_ (i + j / 5) hlt
    rw [hv] at hv'
    simp only [Value.slice.injEq, Option.some.injEq, Addr.mk.injEq] at hv'
    obtain ⟨⟨rfl, rfl, -⟩, -, -⟩ := hv'
    have h5 : (entL (l.getD (i + j / 5) default))[j % 5]? = some u := by
      rw [← he, ← qC_get m (j / 5) (j % 5) (by omega) (by omega), show j / 5 * 5 + j % 5 = j by omega]
      exact hj
    have := hr (j % 5) u h5
    rw [← this]
    congr 2
    omega
theorem Src.none5 (w : World) (n : Nat) (hn : n = 0) : Src w 5 none n (qC []) := ⟨by rw [hn]; rfl, fun h => by omega⟩
end Go.Proofs.Ytkagfnocpllcpaa
