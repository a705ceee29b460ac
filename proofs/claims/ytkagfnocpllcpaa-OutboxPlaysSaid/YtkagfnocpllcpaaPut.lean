/- The contracts of Put and Take. -/
import Derived.Test.YtkagfnocpllcpaaSmall
namespace Go.Proofs.Ytkagfnocpllcpaa
set_option linter.unusedVariables false
open Go Go.RowKit Go.Proofs
def putF (l : List E) (bn : Int) (id body : ByteArray) (now : Int) : Int × List E × Int :=
  if id.size = 0 ∨ 64 < id.size then (1, l, bn) else if clockB bn now = false then (9, l, bn) else if 0 ≤ findI l id then (6, l, bn) else if l.length = 5 then (7, l, bn) else (0, Hp.pushL ltE l ⟨id, body, now, 0, now⟩, now)
theorem BoxTo.same {b : Nat} {v : Value} {now : Int} {w w' : World} {l : List E} (h : BoxA w b v l now) (hb : Below w.heap.size w w') : BoxTo b v now w l w' :=
  ⟨v, h.keep hb, Fr.of_below hb _, fun k hk => .inl hk⟩
theorem BoxA.setNow {w : World} {b : Nat} {v : Value} {l : List E} {bn : Int} (h : BoxA w b v l bn) (now : Int) : BoxA (w.setCell ⟨b, 1, none⟩ (.int .i64 now)) b v l now :=
  ⟨h.blk.set_ 1 _, h.ents.fr ((Fr.refl (one b) w).setCell' (.inl rfl) _) (fun k hk => by unfold one at hk; subst hk; exact h.ne)⟩
set_option maxHeartbeats 1000000 in
theorem put_any (b : Nat) (v : Value) (l : List E) (bn : Int) (id body : ByteArray) (now : Int) (w : World) (h : BoxA w b v l bn) (hl : l.length ≤ 5) (hid : id.size ≤ maxLen) :
    Calls Try.prog 11 #[bP b, .string id, .string body, .int .i64 now] w fun e w' => e = .returned (.int .i64 (putF l bn id body now).1) ∧ BoxTo b v (putF l bn id body now).2.2 w (putF l bn id body now).2.1 w' := by
  unfold maxLen at hid
  have H := Lib.hid h
  by_cases h0 : id.size = 0
  · have hp : putF l bn id body now = (1, l, bn) := by unfold putF; rw [if_pos (.inl h0)]
    have HP := Lib.hid hp
    have he : id.toList = [] := by rw [ByteArray.toList_eq]; exact List.eq_nil_of_length_eq_zero (by simpa using h0)
    clear hp h h0
    go_enter Try.func11, Try.ntmps11
    go_wp2_with fail
    go_ret
    exact ⟨by rw [HP.out]; rfl, by rw [HP.out]; exact BoxTo.same H.out (Below.refl _ _)⟩
  · have he : id.toList ≠ [] := by
      intro e
      rw [ByteArray.toList_eq] at e
      apply h0
      have := congrArg List.length e
      simpa using this
    have he2 : (id.toList == []) = false := by simpa using he
    have he3 : id.toList.isEmpty = false := by simpa using he
    by_cases h64 : 64 < id.size
    · have hp : putF l bn id body now = (1, l, bn) := by unfold putF; rw [if_pos (.inr h64)]
      have HP := Lib.hid hp
      have hd : decide ((64 : Int) < (id.size : Int)) = true := decide_eq_true (by omega)
      clear hp h h0 he
      go_enter Try.func11, Try.ntmps11
      go_wp2_with fail
      go_ret
      exact ⟨by rw [HP.out]; rfl, by rw [HP.out]; exact BoxTo.same H.out (Below.refl _ _)⟩
    · have hd : decide ((64 : Int) < (id.size : Int)) = false := decide_eq_false (by omega)
      have hp0 : ¬ (id.size = 0 ∨ 64 < id.size) := by omega
      have HC := Lib.hid (clock_any b v l bn now w h)
      obtain ⟨t, ht⟩ : ∃ t, t = clockB bn now := ⟨_, rfl⟩
      rw [← ht] at HC
      cases t with
      | false =>
        have hp : putF l bn id body now = (9, l, bn) := by unfold putF; rw [if_neg hp0, if_pos ht.symm]
        have HP := Lib.hid hp
        clear hp h h0 he ht hp0 h64
        go_enter Try.func11, Try.ntmps11
        go_wp2_with (first
          | (go_at_call 25
             refine HC.out.mono ?_
             rintro en w1 ⟨rfl, rfl⟩)
          | fail)
        go_ret
        exact ⟨by rw [HP.out]; rfl, by rw [HP.out]; exact BoxTo.same H.out (Below.refl _ _)⟩
      | true =>
        have HF := Lib.hid (find_any b v l bn id w h (by omega))
        have hp1 : ¬ clockB bn now = false := by rw [← ht]; simp
        obtain ⟨f, hf⟩ : ∃ f, f = findI l id := ⟨_, rfl⟩
        rw [← hf] at HF
        by_cases hf0 : 0 ≤ f
        · have hp : putF l bn id body now = (6, l, bn) := by unfold putF; rw [if_neg hp0, if_neg hp1, if_pos (by omega)]
          have HP := Lib.hid hp
          have hd2 : decide ((0 : Int) ≤ f) = true := decide_eq_true hf0
          clear hp h h0 he ht hp0 h64 hf hp1
          go_enter Try.func11, Try.ntmps11
          go_wp2_with (first
            | (go_at_call 25
               refine HC.out.mono ?_
               rintro en w1 ⟨rfl, rfl⟩)
            | (go_at_call 28
               refine HF.out.mono ?_
               rintro en w2 ⟨rfl, hb2⟩)
            | fail)
          go_ret
          exact ⟨by rw [HP.out]; rfl, by rw [HP.out]; exact BoxTo.same H.out hb2⟩
        · have hd2 : decide ((0 : Int) ≤ f) = false := decide_eq_false hf0
          obtain ⟨A, c, rfl, _, _⟩ := h.ents.shape
          by_cases h5 : l.length = 5
          · have hp : putF l bn id body now = (7, l, bn) := by unfold putF; rw [if_neg hp0, if_neg hp1, if_neg (by omega), if_pos h5]
            have HP := Lib.hid hp
            have hq : ((l.length : Int) == 5) = true := by rw [beq_iff_eq]; omega
            clear hp h h0 he ht hp0 h64 hf hp1 h5
            go_enter Try.func11, Try.ntmps11
            go_wp2_with (first
              | (go_at_call 25
                 refine HC.out.mono ?_
                 rintro en w1 ⟨rfl, rfl⟩)
              | (go_at_call 28
                 refine HF.out.mono ?_
                 rintro en w2 ⟨rfl, hb2⟩
                 have hc2 := (H.out.keep hb2).cell)
              | fail)
            go_ret
            exact ⟨by rw [HP.out]; rfl, by rw [HP.out]; exact BoxTo.same H.out hb2⟩
          · have hp : putF l bn id body now = (0, Hp.pushL ltE l ⟨id, body, now, 0, now⟩, now) := by unfold putF; rw [if_neg hp0, if_neg hp1, if_neg (by omega), if_neg h5]
            have HP := Lib.hid hp
            have hq : ((l.length : Int) == 5) = false := by rw [beq_eq_false_iff_ne]; omega
            clear hp h h0 he ht hp0 h64 hf hp1 h5
            go_enter Try.func11, Try.ntmps11
            go_wp2_with (first
              | (go_at_call 25
                 refine HC.out.mono ?_
                 rintro en w1 ⟨rfl, rfl⟩)
              | (go_at_call 28
                 refine HF.out.mono ?_
                 rintro en w2 ⟨rfl, hb2⟩
                 have hc2 := (H.out.keep hb2).cell
                 have hcn : w2.cell? ⟨b, 1, none⟩ = some (.int .i64 bn) := (H.out.keep hb2).blk.cell 1
                 have hfz := (H.out.keep hb2).blk.frozen 1
                 have hX := (H.out.keep hb2).setNow now
                 have hpu := hpush_any b l ⟨id, body, now, 0, now⟩ (.slice A l.length c) now _ hX (by omega)
                 simp only [entV, entL] at hpu
                 have HPU := Lib.hid hpu
                 clear hpu hX)
              | (go_at_call 27
                 refine HPU.out.mono ?_
                 rintro en w3 ⟨rfl, hT⟩)
              | fail)
            go_ret
            refine ⟨by rw [HP.out]; rfl, ?_⟩
            rw [HP.out]
            obtain ⟨v3, h1, h2, h3⟩ := hT
            have hF2 : Fr (foot b (.slice A l.length c)) w (w2.setCell ⟨b, 1, none⟩ (.int .i64 now)) := (Fr.of_below hb2 _).setCell' (.inl (.inl rfl)) _
            exact ⟨v3, h1, hF2.trans h2, fun k hk => (h3 k hk).elim .inl (fun h => .inr (by have := hb2.size; simp [World.setCell] at h; omega))⟩
theorem put_nil (id body : ByteArray) (now : Int) (w : World) : Calls Try.prog 11 #[.pointer none, .string id, .string body, .int .i64 now] w fun e w' => e = .returned (.int .i64 1) ∧ w = w' := by
  go_enter Try.func11, Try.ntmps11
  go_wp2_with fail
  go_ret
  exact ⟨rfl, rfl⟩
theorem take_nil (id : ByteArray) (w : World) : Calls Try.prog 12 #[.pointer none, .string id] w fun e w' => e = .returned (.int .i64 1) ∧ w = w' := by
  go_enter Try.func12, Try.ntmps12
  go_wp2_with fail
  go_ret
  exact ⟨rfl, rfl⟩
def takeF (l : List E) (id : ByteArray) : Int × List E := if findI l id < 0 then (5, l) else (0, Hp.removeL ltE l (findI l id).toNat)
theorem findFrom_lt (id : ByteArray) : ∀ (l : List E) (i : Nat), 0 ≤ findFrom id l i → findFrom id l i < ((l.length + i : Nat) : Int)
  | [], i, h => by simp [findFrom] at h
  | e :: l, i, h => by
    rw [findFrom] at h ⊢
    split
    · simp; omega
    · rename_i hh
      rw [if_neg hh] at h
      have := findFrom_lt id l (i + 1) h
      simp only [List.length_cons]
      omega
theorem take_any (b : Nat) (v : Value) (l : List E) (now : Int) (id : ByteArray) (w : World) (h : BoxA w b v l now) (hl : l.length ≤ 5) :
    Calls Try.prog 12 #[bP b, .string id] w fun e w' => e = .returned (.int .i64 (takeF l id).1) ∧ BoxTo b v now w (takeF l id).2 w' := by
  have HF := Lib.hid (find_any b v l now id w h (by omega))
  have hlt := findFrom_lt id l 0
  obtain ⟨f, hf⟩ : ∃ f, f = findI l id := ⟨_, rfl⟩
  have hlt' : 0 ≤ f → f < (l.length : Int) := fun h0 => by rw [hf] at h0 ⊢; unfold findI at h0 ⊢; have := hlt h0; simpa using this
  rw [← hf] at HF
  have H := Lib.hid h
  by_cases hf0 : f < 0
  · have hp : takeF l id = (5, l) := by unfold takeF; rw [if_pos (by omega)]
    have HP := Lib.hid hp
    have hd : decide (f < 0) = true := decide_eq_true hf0
    clear hp hf hlt hlt' h
    go_enter Try.func12, Try.ntmps12
    go_wp2_with (first
      | (go_at_call 28
         refine HF.out.mono ?_
         rintro en w2 ⟨rfl, hb2⟩)
      | fail)
    go_ret
    exact ⟨by rw [HP.out]; rfl, by rw [HP.out]; exact BoxTo.same H.out hb2⟩
  · have hp : takeF l id = (0, Hp.removeL ltE l f.toNat) := by unfold takeF; rw [if_neg (by omega), hf]
    have hfl := hlt' (by omega)
    have HP := Lib.hid hp
    have hd : decide (f < 0) = false := decide_eq_false hf0
    obtain ⟨k, rfl⟩ : ∃ k : Nat, f = (k : Int) := ⟨f.toNat, by omega⟩
    have hkl : k < l.length := by omega
    clear hp hf hlt hlt' h hfl
    go_enter Try.func12, Try.ntmps12
    go_wp2_with (first
      | (go_at_call 28
         refine HF.out.mono ?_
         rintro en w2 ⟨rfl, hb2⟩
         have HR := Lib.hid (hremove_any b k l v now w2 (H.out.keep hb2) (by omega) hkl))
      | (go_at_call 29
         refine HR.out.mono ?_
         rintro en w3 ⟨⟨x, rfl⟩, hT⟩)
      | fail)
    go_ret
    refine ⟨by rw [HP.out]; rfl, ?_⟩
    rw [HP.out]
    obtain ⟨v3, h1, h2, h3⟩ := hT
    exact ⟨v3, h1, (Fr.of_below hb2 _).trans h2, fun k hk => (h3 k hk).elim .inl (fun h => .inr (by have := hb2.size; omega))⟩
end Go.Proofs.Ytkagfnocpllcpaa
