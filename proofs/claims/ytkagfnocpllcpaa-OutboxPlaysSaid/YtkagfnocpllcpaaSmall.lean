/- The contracts of a box's small functions: New, Wait, Longest, clock, Next, Now, find. -/
import Derived.Test.YtkagfnocpllcpaaHpush
namespace Go.Proofs.Ytkagfnocpllcpaa
set_option linter.unusedVariables false
open Go Go.RowKit Go.Proofs
abbrev bP (b : Nat) : Value := .pointer (some ⟨b, 0, none⟩)
/-- How long one waits. -/
def waitI (t : Int) : Int := 2 ^ (min (max t 0) 6).toNat
theorem wait_neg (t : Int) (h : t < 0) : 1 = waitI t := by
  unfold waitI
  rw [show min (max t 0) 6 = 0 by omega]; decide +kernel
theorem wait_top (t : Int) (h : 6 < t) : 64 = waitI t := by
  unfold waitI
  rw [show min (max t 0) 6 = 6 by omega]; decide +kernel
theorem wait_mid (t : Int) (h : 0 ≤ t) (k : t ≤ 6) : wrap64 (2 ^ t.toNat) = waitI t := by
  unfold waitI
  rw [show min (max t 0) 6 = t by omega]
  have h7 : t = 0 ∨ t = 1 ∨ t = 2 ∨ t = 3 ∨ t = 4 ∨ t = 5 ∨ t = 6 := by omega
  rcases h7 with rfl | rfl | rfl | rfl | rfl | rfl | rfl <;> decide +kernel
theorem wait_any (t : Int) (w : World) : Calls Try.prog 16 #[.int .i64 t] w fun e w' => e = .returned (.int .i64 (waitI t)) ∧ w = w' := by
  by_cases h0 : t < 0
  · have HW := Lib.hid (wait_neg t h0)
    go_enter Try.func16, Try.ntmps16
    go_wp2_with fail
    go_ret
    exact ⟨by rw [← HW.out]; rfl, rfl⟩
  · by_cases h6 : 6 < t
    · have HW := Lib.hid (wait_top t h6)
      go_enter Try.func16, Try.ntmps16
      go_wp2_with fail
      go_ret
      exact ⟨by rw [← HW.out]; rfl, rfl⟩
    · have h0' : 0 ≤ t := by omega
      have h6' : t ≤ 6 := by omega
      have HW := Lib.hid (wait_mid t h0' h6')
      go_enter Try.func16, Try.ntmps16
      go_wp2_with fail
      go_ret
      exact ⟨by rw [← HW.out]; rfl, rfl⟩
theorem wait_vals : waitI 1 = 2 ∧ waitI 2 = 4 ∧ waitI 3 = 8 ∧ waitI 4 = 16 ∧ waitI 5 = 32 ∧ waitI 6 = 64 := by decide
theorem waitI_bd (t : Int) : 1 ≤ waitI t ∧ waitI t ≤ 64 := by
  unfold waitI
  obtain ⟨k, hk⟩ : ∃ k, k = (min (max t 0) 6).toNat := ⟨_, rfl⟩
  rw [← hk]
  have : k ≤ 6 := by omega
  have h7 : k = 0 ∨ k = 1 ∨ k = 2 ∨ k = 3 ∨ k = 4 ∨ k = 5 ∨ k = 6 := by omega
  rcases h7 with rfl | rfl | rfl | rfl | rfl | rfl | rfl <;> decide
theorem new_any (w : World) : Calls Try.prog 17 #[] w fun e w' => e = .returned (bP w.heap.size) ∧ BoxA w' w.heap.size (.slice none 0 0) [] 0 ∧ Below w.heap.size w w' := by
  go_enter Try.func17, Try.ntmps17
  go_wp2_with fail
  go_ret
  exact ⟨rfl, ⟨Blk.new w 58 _, Ents.nil _⟩, (Below.refl _ _).alloc (Nat.le_refl _) _⟩
theorem now_any (b : Nat) (v : Value) (l : List E) (now : Int) (w : World) (h : BoxA w b v l now) : Calls Try.prog 15 #[bP b] w fun e w' => e = .returned (.int .i64 now) ∧ w = w' := by
  have hc : w.cell? ⟨b, 1, none⟩ = some (.int .i64 now) := h.blk.cell 1
  clear h
  go_enter Try.func15, Try.ntmps15
  go_wp2_with fail
  go_ret
  exact ⟨rfl, rfl⟩
theorem now_nil (w : World) : Calls Try.prog 15 #[.pointer none] w fun e w' => e = .returned (.int .i64 0) ∧ w = w' := by
  go_enter Try.func15, Try.ntmps15
  go_wp2_with fail
  go_ret
  exact ⟨rfl, rfl⟩
/-- May a time be next? -/
def clockB (bn now : Int) : Bool := decide (bn ≤ now) && decide (now ≤ 1099511627776)
theorem clock_any (b : Nat) (v : Value) (l : List E) (bn now : Int) (w : World) (h : BoxA w b v l bn) : Calls Try.prog 25 #[bP b, .int .i64 now] w fun e w' => e = .returned (.bool (clockB bn now)) ∧ w = w' := by
  have hc : w.cell? ⟨b, 1, none⟩ = some (.int .i64 bn) := h.blk.cell 1
  clear h
  by_cases h1 : bn ≤ now
  · have d1 : decide (bn ≤ now) = true := decide_eq_true h1
    have hb : clockB bn now = decide (now ≤ 1099511627776) := by unfold clockB; rw [d1, Bool.true_and]
    have HB := Lib.hid hb
    clear hb
    go_enter Try.func25, Try.ntmps25
    go_wp2_with fail
    go_ret
    exact ⟨by rw [HB.out]; rfl, rfl⟩
  · have d1 : decide (bn ≤ now) = false := decide_eq_false h1
    have hb : clockB bn now = false := by unfold clockB; rw [d1, Bool.false_and]
    have HB := Lib.hid hb
    clear hb
    go_enter Try.func25, Try.ntmps25
    go_wp2_with fail
    go_ret
    exact ⟨by rw [HB.out]; rfl, rfl⟩
/-- When the first one is due. -/
def nextI (l : List E) : Int := match l with
  | [] => -1
  | x :: _ => x.due
theorem next_any (b : Nat) (v : Value) (l : List E) (now : Int) (w : World) (h : BoxA w b v l now) (hl : l.length ≤ 900) : Calls Try.prog 13 #[bP b] w fun e w' => e = .returned (.int .i64 (nextI l)) ∧ w = w' := by
  have hc := h.cell
  cases l with
  | nil =>
    obtain ⟨A, c, rfl, _, _⟩ := h.ents.shape
    have HN := Lib.hid (show nextI [] = -1 from rfl)
    clear h
    go_enter Try.func13, Try.ntmps13
    go_wp2_with fail
    go_ret
    exact ⟨by rw [HN.out]; rfl, rfl⟩
  | cons x r =>
    obtain ⟨g, o, cap, hv, _, hg, _, _, hall⟩ := h.ents.all (by simp)
    obtain ⟨hr, _⟩ := hall 0 (by simp)
    subst hv
    have hd : w.cell? ⟨g, o + 2, none⟩ = some (.int .i64 x.due) := by
      have := hr 2 (.int .i64 x.due) rfl
      simpa using this
    have HN := Lib.hid (show nextI (x :: r) = x.due from rfl)
    have hrl : (x :: r).length = r.length + 1 := rfl
    rw [hrl] at hc
    have hnq : (((r.length + 1 : Nat) : Int) == 0) = false := by rw [beq_eq_false_iff_ne]; omega
    clear hall hr h hl hrl
    go_enter Try.func13, Try.ntmps13
    go_wp2_with fail
    go_ret
    exact ⟨by rw [HN.out]; rfl, rfl⟩
theorem next_nil (w : World) : Calls Try.prog 13 #[.pointer none] w fun e w' => e = .returned (.int .i64 (-1)) ∧ w = w' := by
  go_enter Try.func13, Try.ntmps13
  go_wp2_with fail
  go_ret
  exact ⟨rfl, rfl⟩
theorem longest_any (w : World) : Calls Try.prog 22 #[] w fun e w' => e = .returned (.int .i64 126) ∧ w = w' := by
  have hs : ∀ k : Nat, k < 6 → waitI ((k : Int) + 1) = ((2 ^ (k + 1) : Nat) : Int) := by decide +kernel
  have hp : ∀ k : Nat, k < 6 → ((2 ^ (k + 1) : Nat) : Int) ≤ 64 ∧ ((2 ^ (k + 1) : Nat) : Int) - 2 + ((2 ^ (k + 1) : Nat) : Int) = ((2 ^ (k + 1 + 1) : Nat) : Int) - 2 ∧ 2 ≤ ((2 ^ (k + 1) : Nat) : Int) := by decide +kernel
  have HS := Lib.hid hs
  have HP := Lib.hid hp
  clear hs hp
  go_enter Try.func22, Try.ntmps22
  go_wp2_with fail
  go_loop [1, 2, 3] (fun c1 _ c3 => ∃ k : Nat, k ≤ 6 ∧ c3 = .int .i64 k ∧ c1 = .int .i64 (((2 ^ (k + 1) : Nat) : Int) - 2)) (fun _ _ c3 => 6 - (intOf c3).toNat)
  case atStart => exact ⟨0, by omega, rfl, rfl⟩
  case round =>
    obtain ⟨k, hk, rfl, rfl⟩ := hrel
    by_cases h6 : k < 6
    · have hd : decide ((k : Int) < 6) = true := decide_eq_true (by omega)
      obtain ⟨hp1, hp2, hp3⟩ := HP.out k h6
      have hw := wait_any ((k : Int) + 1)
      rw [HS.out k h6] at hw
      obtain ⟨x, hx⟩ : ∃ x : Int, x = ((2 ^ (k + 1) : Nat) : Int) := ⟨_, rfl⟩
      rw [← hx] at hw hp1 hp2 hp3 ⊢
      have HW := Lib.hid hw
      have HX := Lib.hid hp2
      clear hw hp2 hx
      go_wp2_with (first
        | (go_at_call 16
           refine (HW.out _).mono ?_
           rintro e w1 ⟨rfl, rfl⟩)
        | fail)
      go_round
      case rel => exact ⟨k + 1, by omega, by go_num, congrArg (Value.int .i64) HX.out⟩
      case measure => simp [intOf]; omega
    · obtain rfl : k = 6 := by omega
      go_wp2_with fail
      go_ret
      exact ⟨rfl, rfl⟩
/-- Where an id stands; -1: nowhere. -/
def findFrom (id : ByteArray) : List E → Nat → Int
  | [], _ => -1
  | e :: l, i => if e.id.toList == id.toList then (i : Int) else findFrom id l (i + 1)
def findI (l : List E) (id : ByteArray) : Int := findFrom id l 0
theorem pred_any (e : E) (p : Nat) (id : ByteArray) (w : World) (hp : w.cell? ⟨p, 0, none⟩ = some (.string id)) (hpl : p < w.heap.size) :
    Calls Try.prog 39 #[entV e, .pointer (some ⟨p, 0, none⟩)] w fun en w' => en = .returned (.bool (e.id.toList == id.toList)) ∧ Below w.heap.size w w' := by
  obtain ⟨e1, e2, e3, e4, e5⟩ := e
  unfold entV entL
  go_enter Try.func39, Try.ntmps39
  go_wp2_with fail
  go_ret
  exact ⟨rfl, (Below.refl _ _).alloc (Nat.le_refl _) _⟩
theorem findFrom_drop (id : ByteArray) (l : List E) (i : Nat) (h : i < l.length) : findFrom id (l.drop i) i = if (l.getD i default).id.toList == id.toList then (i : Int) else findFrom id (l.drop (i + 1)) (i + 1) := by
  rw [List.drop_eq_getElem_cons h, findFrom]
  simp [h]
set_option maxHeartbeats 1000000 in
theorem index_any (l : List E) (v : Value) (p : Nat) (id : ByteArray) (w : World) (h : Ents w v l) (hp : w.cell? ⟨p, 0, none⟩ = some (.string id)) (hpl : p < w.heap.size) (hl : l.length ≤ 900) :
    Calls Try.prog 38 #[v, .func (.func 39) #[] #[.pointer (some ⟨p, 0, none⟩)]] w fun e w' => e = .returned (.int .i64 (findI l id)) ∧ Below w.heap.size w w' := by
  obtain ⟨A, c, hv, hc1, hc2⟩ := h.shape
  have H := Lib.hid h
  have HP := Lib.hid hp
  subst hv
  clear h hp
  go_enter Try.func38, Try.ntmps38
  go_wp2_with fail
  go_loopw [5, 8] (fun _ c8 wr => ∃ i : Nat, i ≤ l.length ∧ c8 = .int .i64 i ∧ findI l id = findFrom id (l.drop i) i ∧ Below w.heap.size w wr) (fun _ c8 _ => l.length - (intOf c8).toNat)
  case atStart => exact ⟨0, by omega, rfl, rfl, Below.refl _ _⟩
  case round =>
    obtain ⟨i, hi, rfl, hf, hb⟩ := hrel
    have HF := Lib.hid hf
    clear hf
    by_cases hil : i < l.length
    · have hd : decide ((i : Int) < (l.length : Int)) = true := decide_eq_true (by omega)
      have hE := H.out.keep hb
      obtain ⟨g, o, cap, hv, _, hg, hr, _⟩ := hE.at_ i hil
      simp only [Value.slice.injEq] at hv
      obtain ⟨rfl, _, rfl⟩ := hv
      have hp' : wr.cell? ⟨p, 0, none⟩ = some (.string id) := (hb.cell (p := ⟨p, 0, none⟩) hpl).trans HP.out
      have HC := Lib.hid (pred_any (l.getD i default) p id wr hp' (Nat.lt_of_lt_of_le hpl hb.size))
      have hst := findFrom_drop id l i hil
      obtain ⟨x, hx⟩ : ∃ x, x = l.getD i default := ⟨_, rfl⟩
      rw [← hx] at hr HC hst
      obtain ⟨t, ht⟩ : ∃ t, t = (x.id.toList == id.toList) := ⟨_, rfl⟩
      rw [← ht] at HC hst
      have HR := Lib.hid hr
      have HST := Lib.hid hst
      clear hx ht hst hr hE hp'
      cases t with
      | true =>
        go_wp2_with (first
          | (with_reducible refine wpList_load_mid rfl 47 (.tmp 14) rfl g (o + i * 5) (by with_unfolding_all rfl) (entL x) _ HR.out Try.underlying47 rfl (info47 x) ?_)
          | (go_at_call 39
             refine HC.out.mono ?_
             rintro en w1 ⟨rfl, hb1⟩)
          | fail)
        go_ret
        exact ⟨by rw [HF.out, HST.out]; rfl, hb.trans (hb1.mono hb.size)⟩
      | false =>
        go_wp2_with (first
          | (with_reducible refine wpList_load_mid rfl 47 (.tmp 14) rfl g (o + i * 5) (by with_unfolding_all rfl) (entL x) _ HR.out Try.underlying47 rfl (info47 x) ?_)
          | (go_at_call 39
             refine HC.out.mono ?_
             rintro en w1 ⟨rfl, hb1⟩)
          | fail)
        go_roundw
        case rel => exact ⟨i + 1, by omega, by go_num, by rw [HF.out, HST.out]; rfl, hb.trans (hb1.mono hb.size)⟩
        case measure => simp [intOf]; omega
    · obtain rfl : i = l.length := by omega
      have hd : decide ((l.length : Int) < (l.length : Int)) = false := decide_eq_false (by omega)
      go_wp2_with fail
      go_ret
      exact ⟨by rw [HF.out, List.drop_length]; rfl, hb⟩
theorem find_any (b : Nat) (v : Value) (l : List E) (now : Int) (id : ByteArray) (w : World) (h : BoxA w b v l now) (hl : l.length ≤ 900) :
    Calls Try.prog 28 #[bP b, .string id] w fun e w' => e = .returned (.int .i64 (findI l id)) ∧ Below w.heap.size w w' := by
  have hbl := h.blk.lt
  have hc : (w.alloc (.cells #[.string id] 9)).cell? ⟨b, 0, none⟩ = some v := (h.keep ((Below.refl _ w).alloc (Nat.le_refl _) _)).cell
  have HI := Lib.hid (index_any l v w.heap.size id (w.alloc (.cells #[.string id] 9)) (h.ents.keep ((Below.refl _ w).alloc (Nat.le_refl _) _)) ((Blk.new w 9 _).cell 0) (by simp) hl)
  obtain ⟨A, c, rfl, _, _⟩ := h.ents.shape
  clear h
  go_enter Try.func28, Try.ntmps28
  go_wp2_with (first
    | (go_at_call 38
       refine HI.out.mono ?_
       rintro en w1 ⟨rfl, hb1⟩)
    | fail)
  go_ret
  exact ⟨rfl, ((Below.refl _ w).alloc (Nat.le_refl _) _).trans (hb1.mono (by simp))⟩
end Go.Proofs.Ytkagfnocpllcpaa
