/- The document's box: Wait, Put, Take. -/
import Derived.Test.YtkagfnocpllcpaaRefIns
namespace Go.Proofs.Ytkagfnocpllcpaa
set_option linter.unusedVariables false
open Go Go.RowKit Go.Proofs
theorem pow_bd (i : Nat) (h : i ≤ 6) : (1 : Int) ≤ 2 ^ i ∧ (2 : Int) ^ i ≤ 64 ∧ (2 : Int) ^ i * 2 = 2 ^ (i + 1) := by
  have h : i = 0 ∨ i = 1 ∨ i = 2 ∨ i = 3 ∨ i = 4 ∨ i = 5 ∨ i = 6 := by omega
  rcases h with rfl | rfl | rfl | rfl | rfl | rfl | rfl <;> decide
set_option maxRecDepth 100000 in
set_option maxHeartbeats 2000000 in
theorem rwait_any (t : Int) (w : World) : Calls Try.prog 24 #[.int .i64 t] w fun e w' => e = .returned (.int .i64 (waitI t)) ∧ w = w' := by
  go_enter Try.func24, Try.ntmps24
  go_wp2_with fail
  go_loopw [3, 4] (fun c3 c4 wr => ∃ (i : Nat) (p : Int), i ≤ 6 ∧ (i = 0 ∨ (i : Int) ≤ t) ∧ c4 = .int .i64 (i : Int) ∧ c3 = .int .i64 p ∧ p = 2 ^ i ∧ w = wr) (fun _ c4 _ => 7 - (intOf c4).toNat)
  case atStart => exact ⟨0, 1, by omega, .inl rfl, rfl, rfl, rfl, rfl⟩
  case round =>
    obtain ⟨i, p, hi, hit, rfl, rfl, hp, rfl⟩ := hrel
    have hb := pow_bd i hi
    rw [← hp] at hb
    obtain ⟨hb1, hb2, hb3⟩ := hb
    have HP := Lib.hid hp
    have HB3 := Lib.hid hb3
    clear hp hb3
    have hfin : (¬ (i : Int) < t ∨ i = 6) → p = waitI t := fun h => by
      have hp := HP.out
      unfold waitI
      rw [hp]
      congr 1
      omega
    have HFIN := Lib.hid hfin
    clear hfin
    by_cases h1 : (i : Int) < t
    · have hd1 : decide ((i : Int) < t) = true := decide_eq_true h1
      by_cases h6 : i < 6
      · have hd6 : decide ((i : Int) < 6) = true := decide_eq_true (by omega)
        go_wp2_with fail
        go_roundw
        case rel => exact ⟨i + 1, p * 2, by omega, .inr (by omega), by go_num, by go_num, by rw [HB3.out], trivial⟩
        case measure => simp [intOf]; omega
      · obtain rfl : i = 6 := by omega
        have hd6 : decide (((6 : Nat) : Int) < 6) = false := by decide
        have hpw := HFIN.out (.inr rfl)
        clear hit hi
        go_wp2_with fail
        go_ret
        exact ⟨rfl, rfl⟩
    · have hd1 : decide ((i : Int) < t) = false := decide_eq_false h1
      have HW := Lib.hid (HFIN.out (.inl h1))
      go_wp2_with fail
      go_ret
      exact ⟨by have := HW.out; rw [this]; rfl, rfl⟩
theorem RTo.same {b : Nat} {v : Value} {now : Int} {w w' : World} {l : List E} (h : BoxR w b v l now) (hb : Below w.heap.size w w') : RTo b v now w l w' :=
  ⟨v, h.keep hb, Fr.of_below hb _, fun k hk => .inl hk⟩
theorem BoxR.setNow {w : World} {b : Nat} {v : Value} {l : List E} {bn : Int} (h : BoxR w b v l bn) (now : Int) : BoxR (w.setCell ⟨b, 1, none⟩ (.int .i64 now)) b v l now :=
  ⟨h.blk.set_ 1 _, Own.fr h.ents ((Fr.refl (one b) w).setCell' (.inl rfl) _) (fun k hk => by unfold one at hk; subst hk; exact h.ne)⟩
theorem RTo.after {b : Nat} {v : Value} {now n0 : Int} {w w1 w' : World} {l : List E} (hF : Fr (one b) w w1) (h : RTo b v now w1 l w') : RTo b v now w l w' := by
  obtain ⟨v', h1, h2, h3⟩ := h
  exact ⟨v', h1, hF.trans h2, fun k hk => (h3 k hk).elim .inl (fun h => .inr (Nat.le_trans hF.size h))⟩
def putR (l : List E) (bn : Int) (id body : ByteArray) (now : Int) : Int × List E × Int :=
  if id.size = 0 ∨ 64 < id.size then (1, l, bn) else if clockB bn now = false then (9, l, bn) else if 0 ≤ findI l id then (6, l, bn) else if 5 ≤ l.length then (7, l, bn) else (0, insL l ⟨id, body, now, 0, now⟩, now)
theorem build54' (id body : ByteArray) (d p : Int) (W : World) : (Instr.build 54 #[(0, .string id), (1, .string body), (2, .int .i64 d), (4, .int .i64 p)]).run Try.prog W = .ok (entV ⟨id, body, d, 0, p⟩) W := by kernel_rfl
def IdsOk (l : List E) : Prop := ∀ y ∈ l, y.id.size ≤ 100
set_option maxRecDepth 100000 in
set_option maxHeartbeats 4000000 in
theorem rput_any (b : Nat) (v : Value) (l : List E) (bn : Int) (id body : ByteArray) (now : Int) (w : World) (h : BoxR w b v l bn) (hl : l.length ≤ 5) (hid : id.size ≤ 100) (hids : IdsOk l) :
    Calls Try.prog 33 #[rP b, .string id, .string body, .int .i64 now] w fun e w' => e = .returned (.int .i64 (putR l bn id body now).1) ∧ RTo b v (putR l bn id body now).2.2 w (putR l bn id body now).2.1 w' := by
  have H := Lib.hid h
  have HIDS := Lib.hid hids
  have hcb : w.cell? ⟨b, 1, none⟩ = some (.int .i64 bn) := h.blk.cell 1
  have hc0 : w.cell? ⟨b, 0, none⟩ = some v := h.blk.cell 0
  have hfz := h.blk.frozen 1
  by_cases h0 : id.size = 0
  · have hp : putR l bn id body now = (1, l, bn) := by unfold putR; rw [if_pos (.inl h0)]
    have HP := Lib.hid hp
    have hd : decide ((id.size : Int) < 1) = true := decide_eq_true (by omega)
    clear hp h h0 hids
    go_enter Try.func33, Try.ntmps33
    go_wp2_with fail
    go_ret
    exact ⟨by rw [HP.out]; rfl, by rw [HP.out]; exact RTo.same H.out (Below.refl _ _)⟩
  · have hd0 : decide ((id.size : Int) < 1) = false := decide_eq_false (by omega)
    by_cases h64 : 64 < id.size
    · have hp : putR l bn id body now = (1, l, bn) := by unfold putR; rw [if_pos (.inr h64)]
      have HP := Lib.hid hp
      have hd : decide ((64 : Int) < (id.size : Int)) = true := decide_eq_true (by omega)
      clear hp h h0 hids
      go_enter Try.func33, Try.ntmps33
      go_wp2_with fail
      go_ret
      exact ⟨by rw [HP.out]; rfl, by rw [HP.out]; exact RTo.same H.out (Below.refl _ _)⟩
    · have hd : decide ((64 : Int) < (id.size : Int)) = false := decide_eq_false (by omega)
      have hp0 : ¬ (id.size = 0 ∨ 64 < id.size) := by omega
      by_cases hc1 : now < bn
      · have hp : putR l bn id body now = (9, l, bn) := by unfold putR; rw [if_neg hp0, if_pos (by unfold clockB; simp; omega)]
        have HP := Lib.hid hp
        have hd2 : decide (now < bn) = true := decide_eq_true hc1
        clear hp h h0 hp0 h64 hids
        go_enter Try.func33, Try.ntmps33
        go_wp2_with fail
        go_ret
        exact ⟨by rw [HP.out]; rfl, by rw [HP.out]; exact RTo.same H.out (Below.refl _ _)⟩
      · have hd2 : decide (now < bn) = false := decide_eq_false hc1
        by_cases hc2 : 1099511627776 < now
        · have hp : putR l bn id body now = (9, l, bn) := by unfold putR; rw [if_neg hp0, if_pos (by unfold clockB; simp; omega)]
          have HP := Lib.hid hp
          have hd3 : decide ((1099511627776 : Int) < now) = true := decide_eq_true hc2
          clear hp h h0 hp0 h64 hids
          go_enter Try.func33, Try.ntmps33
          go_wp2_with fail
          go_ret
          exact ⟨by rw [HP.out]; rfl, by rw [HP.out]; exact RTo.same H.out (Below.refl _ _)⟩
        · have hd3 : decide ((1099511627776 : Int) < now) = false := decide_eq_false hc2
          have hp1 : ¬ clockB bn now = false := by unfold clockB; simp; omega
          have HF := Lib.hid (at_any b v l bn id w h (by omega))
          obtain ⟨f, hf⟩ : ∃ f, f = findI l id := ⟨_, rfl⟩
          rw [← hf] at HF
          by_cases hf0 : 0 ≤ f
          · have hp : putR l bn id body now = (6, l, bn) := by unfold putR; rw [if_neg hp0, if_neg hp1, if_pos (by omega)]
            have HP := Lib.hid hp
            have hd4 : decide ((0 : Int) ≤ f) = true := decide_eq_true hf0
            clear hp h h0 hp0 h64 hf hp1 hids
            go_enter Try.func33, Try.ntmps33
            go_wp2_with (first
              | (go_at_call 47
                 refine HF.out.mono ?_
                 rintro en w1 ⟨rfl, rfl⟩)
              | fail)
            go_ret
            exact ⟨by rw [HP.out]; rfl, by rw [HP.out]; exact RTo.same H.out (Below.refl _ _)⟩
          · have hd4 : decide ((0 : Int) ≤ f) = false := decide_eq_false hf0
            obtain ⟨A, cap, hv, -, -⟩ := h.ents.shape
            obtain ⟨n, hn⟩ : ∃ n, n = l.length := ⟨_, rfl⟩
            rw [← hn] at hv
            have HN := Lib.hid hn
            subst hv
            by_cases h5 : 5 ≤ n
            · have hp : putR l bn id body now = (7, l, bn) := by unfold putR; rw [if_neg hp0, if_neg hp1, if_neg (by omega), if_pos (by omega)]
              have HP := Lib.hid hp
              have hd5 : decide ((5 : Int) ≤ (n : Int)) = true := decide_eq_true (by omega)
              clear hp h h0 hp0 h64 hf hp1 hn hids
              go_enter Try.func33, Try.ntmps33
              go_wp2_with (first
                | (go_at_call 47
                   refine HF.out.mono ?_
                   rintro en w1 ⟨rfl, rfl⟩)
                | fail)
              go_ret
              exact ⟨by rw [HP.out]; rfl, by rw [HP.out]; exact RTo.same H.out (Below.refl _ _)⟩
            · have hp : putR l bn id body now = (0, insL l ⟨id, body, now, 0, now⟩, now) := by unfold putR; rw [if_neg hp0, if_neg hp1, if_neg (by omega), if_neg (by omega)]
              have HP := Lib.hid hp
              have hd5 : decide ((5 : Int) ≤ (n : Int)) = false := decide_eq_false (by omega)
              have HI := Lib.hid (insert_any b _ l now ⟨id, body, now, 0, now⟩ _ (h.setNow now) (by omega) hid HIDS.out)
              have hbd := fun W => build54' id body now now W
              have HFN := Lib.hid ((Fr.refl (one b) w).setCell' (g := b) (o := 1) (s := none) (.inl rfl) (.int .i64 now))
              clear hp h h0 hp0 h64 hf hp1 hn hids
              go_enter Try.func33, Try.ntmps33
              go_wp2_with (first
                | (go_at_call 47
                   refine HF.out.mono ?_
                   rintro en w1 ⟨rfl, rfl⟩)
                | (go_at_call 48
                   refine HI.out.mono ?_
                   rintro en w2 ⟨rfl, hT⟩)
                | fail)
              go_ret
              exact ⟨by rw [HP.out]; rfl, by rw [HP.out]; exact RTo.after (n0 := 0) HFN.out hT⟩
def takeR (l : List E) (id : ByteArray) : Int × List E := if findI l id < 0 then (5, l) else (0, cutL l (findI l id).toNat)
set_option maxRecDepth 100000 in
set_option maxHeartbeats 2000000 in
theorem rtake_any (b : Nat) (v : Value) (l : List E) (now : Int) (id : ByteArray) (w : World) (h : BoxR w b v l now) (hl : l.length ≤ 5) :
    Calls Try.prog 34 #[rP b, .string id] w fun e w' => e = .returned (.int .i64 (takeR l id).1) ∧ RTo b v now w (takeR l id).2 w' := by
  have HF := Lib.hid (at_any b v l now id w h (by omega))
  have hfa : 0 ≤ findI l id → (findI l id).toNat < l.length := fun h0 => (find_at h0).1
  have hcut : ∀ k : Nat, k < l.length → Calls Try.prog 49 #[rP b, .int .i64 (k : Int)] w fun e w' => e = .returned (.tuple #[]) ∧ RTo b v now w (cutL l k) w' := fun k hk => cut_any b v l now k w h (by omega) hk
  have H := Lib.hid h
  obtain ⟨f, hf⟩ : ∃ f, f = findI l id := ⟨_, rfl⟩
  rw [← hf] at HF hfa
  by_cases hf0 : f < 0
  · have hp : takeR l id = (5, l) := by unfold takeR; rw [if_pos (by omega)]
    have HP := Lib.hid hp
    have hd : decide (f < 0) = true := decide_eq_true hf0
    clear hp h hf hcut
    go_enter Try.func34, Try.ntmps34
    go_wp2_with (first
      | (go_at_call 47
         refine HF.out.mono ?_
         rintro en w1 ⟨rfl, rfl⟩)
      | fail)
    go_ret
    exact ⟨by rw [HP.out]; rfl, by rw [HP.out]; exact RTo.same H.out (Below.refl _ _)⟩
  · have hp : takeR l id = (0, cutL l f.toNat) := by unfold takeR; rw [if_neg (by omega), ← hf]
    have HP := Lib.hid hp
    have hd : decide (f < 0) = false := decide_eq_false hf0
    have hc := hcut f.toNat (hfa (by omega))
    rw [Int.toNat_of_nonneg (by omega)] at hc
    have HC := Lib.hid hc
    clear hp h hf hcut hc hfa
    go_enter Try.func34, Try.ntmps34
    go_wp2_with (first
      | (go_at_call 47
         refine HF.out.mono ?_
         rintro en w1 ⟨rfl, rfl⟩)
      | (go_at_call 49
         refine HC.out.mono ?_
         rintro en w2 ⟨rfl, hT⟩)
      | fail)
    go_ret
    exact ⟨by rw [HP.out]; rfl, by rw [HP.out]; exact hT⟩
end Go.Proofs.Ytkagfnocpllcpaa
