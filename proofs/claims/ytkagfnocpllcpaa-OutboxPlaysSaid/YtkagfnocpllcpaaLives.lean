/- A queue of one entry; the contract of the laws' lives. -/
import Derived.Test.YtkagfnocpllcpaaTry
namespace Go.Proofs.Ytkagfnocpllcpaa
set_option linter.unusedVariables false
open Go Go.RowKit Go.Proofs
theorem push_nil (e : E) : Hp.pushL ltE [] e = [e] := rfl
theorem pop_one (e : E) : Hp.popL ltE [e] = ([], e) := rfl
theorem remove_one (e : E) : Hp.removeL ltE [e] 0 = [] := rfl
theorem due_one (now : Int) (e : E) : dueL now [e] = if e.due ≤ now then ([e], []) else ([], [e]) := by
  unfold dueL
  show dueF now 1 [e] = _
  rw [dueF]
  by_cases h : e.due ≤ now
  · rw [if_pos ⟨by simp, h⟩, if_pos h]; rfl
  · rw [if_neg (fun hh => h hh.2), if_neg h]
theorem due_nil (now : Int) : dueL now [] = ([], []) := rfl
theorem try_wait (bn now : Int) (e : E) (hc : clockB bn now = true) (h : ¬ e.due ≤ now) : tryF bn now [e] = ([], [], 0, [e], now) := by
  unfold tryF; rw [if_neg (by rw [hc]; simp), due_one, if_neg h]; rfl
theorem try_go (bn now : Int) (e : E) (hc : clockB bn now = true) (h : e.due ≤ now) (h6 : ¬ e.tries = 6) : tryF bn now [e] = ([stepT now e], [], 0, [stepT now e], now) := by
  unfold tryF; rw [if_neg (by rw [hc]; simp), due_one, if_pos h]
  have h1 : outL now [e] = [stepT now e] := by unfold outL; rw [List.filter_cons_of_pos (by simpa using h6)]; rfl
  have h2 : goneL [e] = [] := by unfold goneL; rw [List.filter_cons_of_neg (by simpa using h6)]; rfl
  have h3 : pushAll ([] : List E) [stepT now e] = [stepT now e] := by unfold pushAll; rw [List.foldl_cons, List.foldl_nil, push_nil]
  rw [h1, h2, h3]
theorem due_tries (now : Int) (e : E) (h0 : 0 ≤ e.tries) (h6 : e.tries ≤ 6) : ∀ x ∈ (dueL now [e]).1, 0 ≤ x.tries ∧ x.tries ≤ 6 := by
  intro x hx
  rw [due_one] at hx
  by_cases h : e.due ≤ now
  · rw [if_pos h] at hx
    have : x = e := by simpa using hx
    rw [this]; exact ⟨h0, h6⟩
  · rw [if_neg h] at hx
    cases hx
theorem try_gone (bn now : Int) (e : E) (hc : clockB bn now = true) (h : e.due ≤ now) (h6 : e.tries = 6) : tryF bn now [e] = ([], [e.id], 0, [], now) := by
  unfold tryF; rw [if_neg (by rw [hc]; simp), due_one, if_pos h]
  have h1 : outL now [e] = [] := by unfold outL; rw [List.filter_cons_of_neg (by simpa using h6)]; rfl
  have h2 : goneL [e] = [e.id] := by unfold goneL; rw [List.filter_cons_of_pos (by simpa using h6)]; rfl
  rw [h1, h2]; rfl
theorem try_empty (bn now : Int) (hc : clockB bn now = true) : tryF bn now [] = ([], [], 0, [], now) := by
  unfold tryF; rw [if_neg (by rw [hc]; simp), due_nil]; rfl
theorem find_own (e : E) : findI [e] e.id = 0 := by unfold findI findFrom; simp
theorem take_own (e : E) : takeF [e] e.id = (0, []) := by unfold takeF; rw [find_own]; rfl
theorem take_empty (id : ByteArray) : takeF [] id = (5, []) := rfl
theorem put_empty (bn : Int) (id body : ByteArray) (now : Int) (h0 : ¬ id.size = 0) (h64 : ¬ 64 < id.size) (hc : clockB bn now = true) : putF [] bn id body now = (0, [⟨id, body, now, 0, now⟩], now) := by
  unfold putF
  rw [if_neg (by omega), if_neg (by rw [hc]; simp), if_neg (by show ¬ (0 : Int) ≤ -1; omega), if_neg (by simp)]
  rfl
def sA : ByteArray := ⟨#[97]⟩
def sX : ByteArray := ⟨#[120]⟩
theorem lives_eq (w : World) : (Op.equalIn 10000 47 (.agg #[.string ⟨#[97]⟩, .string ⟨#[120]⟩, .int .i64 5, .int .i64 1, .int .i64 3]) (.agg #[.string ⟨#[97]⟩, .string ⟨#[120]⟩, .int .i64 5, .int .i64 1, .int .i64 3])).run Try.prog w = .ok true w := by kernel_rfl
/-- The box of a law, made by the call. -/
structure Lb (w W : World) (b : Nat) (v : Value) (l : List E) (now : Int) : Prop where
  box : BoxA W b v l now
  bge : w.heap.size ≤ b
  row : ∀ k, rowOf v k → w.heap.size ≤ k
  bel : Below w.heap.size w W
theorem Lb.to {w W W' : World} {b : Nat} {v : Value} {l l' : List E} {now now' : Int} (h : Lb w W b v l now) (hT : BoxTo b v now' W l' W') : ∃ v', Lb w W' b v' l' now' ∧ Fr (foot b v) W W' := by
  obtain ⟨v', h1, h2, h3⟩ := hT
  have s := h.bel.size
  refine ⟨v', ⟨h1, h.bge, fun k hk => (h3 k hk).elim (h.row k) (fun hh => by omega), h.bel.trans (h2.below s (fun k hk => ?_))⟩, h2⟩
  rcases hk with rfl | hk
  · exact h.bge
  · exact h.row k hk
theorem Lb.keep {w W W' : World} {b : Nat} {v : Value} {l : List E} {now : Int} (h : Lb w W b v l now) (hb : Below W.heap.size W W') : Lb w W' b v l now := ⟨h.box.keep hb, h.bge, h.row, h.bel.trans (hb.mono h.bel.size)⟩
theorem Lb.new {w w0 W : World} {b : Nat} (h : BoxA W b (.slice none 0 0) [] 0) (hb : b = w0.heap.size) (hbel : Below w0.heap.size w0 W) (h0 : Below w.heap.size w w0) : Lb w W b (.slice none 0 0) [] 0 :=
  ⟨h, (by rw [hb]; exact h0.size), (fun k hk => by cases hk), h0.trans (hbel.mono h0.size)⟩
set_option maxRecDepth 100000 in
set_option maxHeartbeats 2000000 in
theorem lives_any (w : World) : Calls Try.prog 9 #[] w fun e w' => e = .returned (.bool true) ∧ Below w.heap.size w w' := by
  have hp := put_empty 0 sA sX 3 (by decide) (by decide) (by decide)
  have ht := try_go 3 3 ⟨sA, sX, 3, 0, 3⟩ (by decide) (by decide) (by decide)
  have hk := take_own (stepT 3 ⟨sA, sX, 3, 0, 3⟩)
  have hs : stepT 3 ⟨sA, sX, 3, 0, 3⟩ = ⟨sA, sX, 5, 1, 3⟩ := by
    unfold stepT; rw [show waitI ((0 : Int) + 1) = 2 from wait_vals.1]; rfl
  rw [hs] at ht hk
  have heq := fun w => lives_eq w
  have HP := Lib.hid hp
  have HT := Lib.hid ht
  have HK := Lib.hid hk
  clear hp ht hk hs
  go_enter Try.func9, Try.ntmps9
  go_wp2_with (first
    | (go_at_call 17
       refine (new_any _).mono ?_
       rintro en w1 ⟨rfl, hX1, hb1⟩
       have hL1 := Lb.new hX1 rfl hb1 (Below.refl _ w)
       have hC1 := put_any w.heap.size _ [] 0 sA sX 3 w1 hL1.box (by simp) (by unfold maxLen; decide)
       rw [HP.out] at hC1
       have HL1 := Lib.hid hL1
       have HC1 := Lib.hid hC1
       clear hX1 hb1 hL1 hC1)
    | (go_at_call 11
       refine HC1.out.mono ?_
       rintro en w2 ⟨rfl, hT⟩
       obtain ⟨v2, hL2, _⟩ := HL1.out.to hT
       have hC2 := try_any w.heap.size v2 _ 3 3 w2 hL2.box (by simp) (by omega) (due_tries 3 _ (by decide) (by decide))
       rw [HT.out] at hC2
       have HL2 := Lib.hid hL2
       have HC2 := Lib.hid hC2
       clear hT hL2 hC2)
    | (go_at_call 10
       refine HC2.out.mono ?_
       rintro en w3 ⟨⟨vo, vg, rfl, hO, hG⟩, hT⟩
       obtain ⟨v3, hL3, _⟩ := HL2.out.to hT
       obtain ⟨g, o, co, hvo, _, hgl, _, _, hall⟩ := hO.ents.all (by simp)
       obtain ⟨Ag, cg, hvg, _, _⟩ := hG.own.shape
       obtain ⟨hr, _⟩ := hall 0 (by simp)
       subst hvo hvg
       have HN3 := Lib.hid (show Calls Try.prog 13 #[bP w.heap.size] w3 fun e w' => e = .returned (.int .i64 5) ∧ w3 = w' from next_any w.heap.size v3 _ 3 w3 hL3.box (by simp))
       have hRg : w3.rangeAt g o [.string ⟨#[97]⟩, .string ⟨#[120]⟩, .int .i64 5, .int .i64 1, .int .i64 3] := by have := hr; rw [Nat.zero_mul, Nat.add_zero] at this; exact this
       have hc0 : w3.cell? ⟨g, o, none⟩ = some (.string ⟨#[97]⟩) := hRg 0 _ rfl
       have hc1 : w3.cell? ⟨g, o + 1, none⟩ = some (.string ⟨#[120]⟩) := hRg 1 _ rfl
       have hc2 : w3.cell? ⟨g, o + 2, none⟩ = some (.int .i64 5) := hRg 2 _ rfl
       have hc3 : w3.cell? ⟨g, o + 3, none⟩ = some (.int .i64 1) := hRg 3 _ rfl
       have hc4 : w3.cell? ⟨g, o + 4, none⟩ = some (.int .i64 3) := hRg 4 _ rfl
       clear hRg
       have hC4 := take_any w.heap.size v3 _ 3 sA w3 hL3.box (by simp)
       rw [HK.out] at hC4
       have HC4 := Lib.hid hC4
       have HL3 := Lib.hid hL3
       clear hT hL3 hO hG hall hr hC4)
    | (go_at_call 13
       have _t := HN3
       refine HN3.out.mono ?_
       rintro en w3' ⟨rfl, rfl⟩
       clear HN3)
    | (go_at_call 12
       refine HC4.out.mono ?_
       rintro en w4 ⟨rfl, hT4⟩
       obtain ⟨v4, hL4, _⟩ := HL3.out.to hT4
       have HN3 := Lib.hid (show Calls Try.prog 13 #[bP w.heap.size] w4 fun e w' => e = .returned (.int .i64 (-1)) ∧ w4 = w' from next_any w.heap.size v4 _ 3 w4 hL4.box (by simp))
       have HL4 := Lib.hid hL4
       clear hT4 hL4)
    | (go_at_call 22
       refine (longest_any _).mono ?_
       rintro en w5 ⟨rfl, rfl⟩)
    | fail)
  go_ret
  exact ⟨rfl, HL4.out.bel⟩
end Go.Proofs.Ytkagfnocpllcpaa
