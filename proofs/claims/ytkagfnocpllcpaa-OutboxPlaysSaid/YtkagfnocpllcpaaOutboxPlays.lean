/- The law OutboxPlays: what a box answers, and has, in whatever row, is what the document says, of any times. For every input. -/
import Derived.Test.YtkagfnocpllcpaaPlayStep
import Derived.Test.YtkagfnocpllcpaaOutboxErrors
import Derived.Test.YtkagfnocpllcpaaFrame
namespace Go.Proofs.Ytkagfnocpllcpaa
open Go Go.RowKit Go.Proofs
set_option linter.unusedVariables false
def nextL (l : List E) : Int := match l with
  | [] => -1
  | x :: _ => x.due
theorem next_same {q : List E} {bn : Int} (h : Inv q bn) : nextI q = nextL (isortL q) := by
  have hp := isortL_perm q
  cases hq : q with
  | nil => rfl
  | cons x t =>
    cases hL : isortL (x :: t) with
    | nil =>
      have := isort_len (x :: t)
      rw [hL] at this
      simp at this
    | cons y s =>
      show x.due = y.due
      rw [hq] at hp h
      have O := ord_of h.nod
      have hs := h.sorted
      rw [hL] at hp hs
      have hyx : y ∈ x :: t := hp.mem_iff.1 (by simp)
      have hxy : x ∈ y :: s := hp.mem_iff.2 (by simp)
      have h1 : ltE y x = false := by
        obtain ⟨k, hk, e⟩ := List.getElem_of_mem hyx
        have := Hp.heap_min ltE O (x :: t) (x :: t).length (allIn _) (Nat.le_refl _) h.heap k hk
        rw [List.getD_eq_getElem?_getD, List.getElem?_eq_getElem hk, Option.getD_some, e] at this
        simpa using this
      have h2 : ltE x y = false := by
        rcases List.mem_cons.1 hxy with rfl | hx
        · exact h1
        · exact (List.pairwise_cons.1 hs).1 x hx
      have := O.tot y x hyx (by simp) h1 h2
      rw [this]
theorem both_ops {w W : World} {b br : Nat} {v vr vs : Value} {q L : List E} {bn rn : Int} {l : List Op} (h : Pl w W b v q bn br vr L rn) (ho : OpsO W vs l) : ∀ k, both b v br k → ¬ rowOf vs k := fun k hk hk2 => by
  rcases hk with hk | rfl
  · exact foot_ops h.lb ho k hk hk2
  · exact Own.blk_ne ho h.ref.blk (by decide) hk2
theorem both_blk {w W : World} {b br go : Nat} {v vr : Value} {q L : List E} {bn rn : Int} {cs : Array Value} (h : Pl w W b v q bn br vr L rn) (ho : Blk W go 23 cs) : ¬ both b v br go := fun hk => by
  rcases hk with hk | rfl
  · exact foot_blk h.lb ho (by decide) (by decide) hk
  · exact absurd rfl (ho.ne_ h.ref.blk (by decide))
theorem s_of {w W : World} {b br g7 : Nat} {v vr : Value} {q L : List E} {bn rn : Int} {z1 z2 z3 : Int} {id body : ByteArray} (h : Pl w W b v q bn br vr L rn) (hB : Blk W g7 23 (opCells ⟨z1, z2, z3, id, body⟩).toArray) :
    W.cell? ⟨br, 0, none⟩ = some vr ∧ W.cell? ⟨br, 1, none⟩ = some (.int .i64 rn) ∧ W.cell? ⟨g7, 2, none⟩ = some (.int .i64 z3) := ⟨h.ref.blk.cell 0, h.ref.blk.cell 1, hB.cell 2⟩
end Go.Proofs.Ytkagfnocpllcpaa
namespace Go.Proofs.Ytkagfnocpllcpaa.outboxPlays
open Go Go.RowKit Go.Proofs Go.Proofs.Ytkagfnocpllcpaa
set_option linter.unusedVariables false
set_option maxRecDepth 100000 in
set_option maxHeartbeats 40000000 in
theorem walk (a0 : Option Addr) (len0 cap0 : Nat) (l0 : List Op) (w : World) (w0 : IsOps w a0 len0 cap0 l0) :
    Calls Try.prog 8 #[.slice a0 len0 cap0] w fun e w' => e = .returned (.bool true) ∧ Below w.heap.size w w' := by
  have H0 := Lib.hid w0
  have hbuild : ∀ W : World, (Instr.build 52 #[]).run Try.prog W = .ok (.agg #[.slice none 0 0, .int .i64 0]) W := fun W => by kernel_rfl
  clear w0
  go_enter Try.func8, Try.ntmps8
  go_wp2_with (first
    | (go_at_call 9
       refine (lives_any w).mono ?_
       rintro e w1 ⟨rfl, hb1⟩)
    | (go_at_call 17
       refine (new_any _).mono ?_
       rintro e w2 ⟨rfl, hX2, hb2⟩
       have hL2 := Lb.new hX2 rfl hb2 hb1
       have hP2 : Pl w (w2.alloc (.cells #[.slice none 0 0, .int .i64 0] 52)) w1.heap.size _ [] 0 w2.heap.size (.slice none 0 0) [] 0 := ⟨hL2.keep ((Below.refl _ w2).alloc (Nat.le_refl _) _), ⟨Blk.new w2 52 _, EntsR.nil _⟩, hL2.bel.size, fun k hk => by cases hk⟩
       have HP2 := Lib.hid hP2
       have HE2 := Lib.hid (early_any a0 len0 cap0 l0 _ (H0.out.keep hP2.lb.bel))
       clear hX2 hb2 hL2 hP2)
    | (go_at_call 18
       refine HE2.out.mono ?_
       rintro e w3 ⟨vs, l, rfl, hO3, hl100, hfit, hrs, hb3⟩
       have HP3 := Lib.hid (HP2.out.keep hb3)
       have HO3 := Lib.hid hO3
       have HFIT := Lib.hid hfit
       obtain ⟨As, cs, hvs, hvs1, hvs2⟩ := hO3.shape
       subst hvs
       clear HP2 HE2 hO3 hfit hrs hb3)
    | fail)
  obtain ⟨b, hb⟩ : ∃ b, b = w1.heap.size := ⟨_, rfl⟩
  obtain ⟨br, hbr⟩ : ∃ br, br = w2.heap.size := ⟨_, rfl⟩
  obtain ⟨n, hn⟩ : ∃ n, n = l.length := ⟨_, rfl⟩
  rw [← hb, ← hbr] at HP3 ⊢
  rw [← hn] at HO3 hl100 ⊢
  have HN := Lib.hid hn
  clear hb hbr hb1 hn hvs1 hvs2
  go_loopw [5, 6] (fun c5 c6 wr => ∃ (i : Nat) (now bn : Int) (v vr : Value) (q : List E), i ≤ n ∧ c6 = .int .i64 (i : Int) ∧ c5 = .int .i64 now ∧ 0 ≤ now ∧ now ≤ 1099511627776 + 40 * (i : Int) ∧ Fine q bn ∧ Pl w wr b v q bn br vr (isortL q) bn ∧ OpsO wr (.slice As n cs) l) (fun _ c6 _ => n - (intOf c6).toNat)
  case atStart => exact ⟨0, 0, 0, _, _, [], by omega, rfl, rfl, by omega, by omega, ⟨Inv.nil 0, by omega, by omega, fun y hy => by cases hy⟩, HP3.out, HO3.out⟩
  case round =>
    obtain ⟨i, now, bn, v, vr, q, hi, rfl, rfl, hnow0, hnow1, hI, hP, hO⟩ := hrel
    have HI := Lib.hid hI
    have HP := Lib.hid hP
    have HO := Lib.hid hO
    have hbn0 := hI.bn0
    have hbn1 := hI.bn1
    clear hI hP hO HP3 HO3
    by_cases hin : i < n
    · have hd : decide ((i : Int) < (n : Int)) = true := decide_eq_true (by omega)
      obtain ⟨g, o, cp, hv, _, hg, hr⟩ := HO.out.at_ i (by rw [← HN.out]; exact hin)
      simp only [Value.slice.injEq] at hv
      obtain ⟨rfl, -, rfl⟩ := hv
      have hfx := HFIT.out (l.getD i default) (by have := HN.out; simp [show i < l.length by omega])
      obtain ⟨x, hx⟩ : ∃ x, x = l.getD i default := ⟨_, rfl⟩
      rw [← hx] at hr hfx
      obtain ⟨z1, z2, z3, id, body⟩ := x
      obtain ⟨hs70, ht40⟩ := hfx
      have hs70 : id.size ≤ 70 := hs70
      have HRR := Lib.hid hr
      obtain ⟨r, hr0, hr1, hr2, hr3⟩ := rem_u 40 (by decide) z2
      obtain ⟨t, ht⟩ : ∃ t, now + r = t := ⟨_, rfl⟩
      have htn2 : t ≤ now + 40 := by omega
      have ht0 : 0 ≤ t := by omega
      have ht1 : t ≤ 1099511637776 := by omega
      have HW1 := Lib.hid htn2
      have HW2 := Lib.hid hnow1
      clear hx hr hnow1 htn2
      obtain ⟨wo, rfl⟩ : ∃ wo : World, wo = wr := ⟨_, rfl⟩
      go_wp2_with (first
        | (with_reducible refine wpList_load_mid rfl 23 (.tmp 25) rfl g (o + i * 5) (by with_unfolding_all rfl) (opCells ⟨z1, z2, z3, id, body⟩) _ HRR.out Try.underlying23 rfl (info23 _) ?_)
        | (with_reducible refine wpList_alloc_run rfl 23 rfl (opCells default).toArray zero23 ?_)
        | (refine wpList_store_blk rfl 23 (.tmp 7) (.tmp 26) rfl wo.heap.size 23 (opCells default).toArray (opCells ⟨z1, z2, z3, id, body⟩).toArray (by rfl) (by rfl) (Blk.new wo 23 _) rfl (info23 _) (one_op _) ?_
           intro w4 hb4 hf4
           simp only [Act.put, List.setIfInBounds_toArray, List.set_cons_zero, List.set_cons_succ])
        | fail)
      have hF4 : Fr nob wo w4 := ((Fr.refl nob wo).alloc _).then hf4 (fun i hi => Or.inr (by unfold one at hi; omega))
      have hP4 := HP.out.keep hF4.below_nob
      have HO4 := Lib.hid (HO.out.keep hF4.below_nob)
      have hc1 : w4.cell? ⟨wo.heap.size, 1, none⟩ = some (.int .i64 z2) := hb4.cell 1
      have hlo : wo.heap.size < w4.heap.size := hb4.lt
      have hcn : w4.cell? ⟨br, 1, none⟩ = some (.int .i64 bn) := hP4.ref.blk.cell 1
      have hlb : br < w4.heap.size := hP4.ref.blk.lt
      have HP4 := Lib.hid hP4
      have HB4 := Lib.hid hb4
      have hbt0 : 0 ≤ bn := hbn0
      clear hb4 hf4 hF4 hP4
      refine wp_region_quiet_below (by kernel_rfl) (by kernel_rfl) ?_
      repeat (go_big_quiet_step (fail))
      refine wpQuiet_nil ?_
      intro w5 hw5
      have hb5 := Re.below hw5
      clear hw5
      obtain ⟨mx, hmx⟩ : ∃ mx : Int, mx = if t < bn then bn else t := ⟨_, rfl⟩
      rw [← hmx]
      have hmx0 : 0 ≤ mx := by rw [hmx]; split <;> omega
      have HMX : Hid (mx ≤ t ∨ mx ≤ 1099511627776) := Lib.hid (by rw [hmx]; split <;> omega)
      have hP5 := HP4.out.keep hb5
      have HO5 := Lib.hid (HO4.out.keep hb5)
      have hB5 := HB4.out.below hb5 HB4.out.lt
      have hc2 : w5.cell? ⟨wo.heap.size, 2, none⟩ = some (.int .i64 z3) := hB5.cell 2
      have HP5 := Lib.hid hP5
      have HB5 := Lib.hid hB5
      clear hmx hc1 hlo hcn hlb hb5 hP5 hB5
      have h11 : (((i : Int) % 11 == 10) = true ∧ ((i : Int).tmod 11 == 10) = true) ∨ (((i : Int) % 11 == 10) = false ∧ ((i : Int).tmod 11 == 10) = false) := by
        rw [Int.tmod_eq_emod_of_nonneg (by omega)]
        cases (i : Int) % 11 == 10 <;> simp
      rcases h11 with ⟨h111, h112⟩ | ⟨h111, h112⟩ <;>
      (go_wp2_with (first
        | (with_reducible refine wpList_load_blk rfl 23 (.tmp 7) rfl wo.heap.size 23 (opCells ⟨z1, z2, z3, id, body⟩).toArray _ (by with_unfolding_all rfl) HB5.out Try.underlying23 rfl (info23 _) ?_)
        | fail)
       refine (step_any w b br v vr q bn ⟨z1, z2, z3, id, body⟩ _ w5 HP5.out HI.out hs70).mono ?_
       rintro en w6 ⟨rfl, v6, vr6, q6, bn6, hP6, hF6, hfr6⟩
       have HO6 : Hid (OpsO w6 (.slice (some ⟨g, o, none⟩) n cs) l) := Lib.hid (Own.fr HO5.out hfr6 (both_ops HP5.out HO5.out))
       have hB6 : Blk w6 wo.heap.size 23 (opCells ⟨z1, z2, z3, id, body⟩).toArray := HB5.out.fr hfr6 (both_blk HP5.out HB5.out)
       have HF6 := Lib.hid hF6
       obtain ⟨A6, c6, hv6, -, -⟩ := hP6.ref.ents.shape
       obtain ⟨n6, hn6⟩ : ∃ n6, n6 = (isortL q6).length := ⟨_, rfl⟩
       rw [← hn6] at hv6
       subst hv6
       have hcL : w6.cell? ⟨br, 0, none⟩ = some (.slice A6 n6 c6) := hP6.ref.blk.cell 0
       have hq65 : q6.length ≤ 5 := hF6.inv.len
       have hn65 : n6 ≤ 5 := by rw [hn6, isort_len]; exact hq65
       have hcase : (n6 = 0 ∧ nextI q6 = -1) ∨ (0 < n6 ∧ ∃ (gh oh : Nat) (y : E), A6 = some ⟨gh, oh, none⟩ ∧ w6.cell? ⟨gh, oh + 2, none⟩ = some (.int .i64 y.due) ∧ nextI q6 = y.due) := by
         rw [next_same hF6.inv]
         rcases Nat.eq_zero_or_pos n6 with h0 | h0
         · exact .inl ⟨h0, by rw [h0] at hn6; rw [List.eq_nil_of_length_eq_zero hn6.symm]; rfl⟩
         · obtain ⟨gh, oh, cp, hv, -, hg, hr⟩ := hP6.ref.ents.at_ 0 (by rw [← hn6]; exact h0)
           simp only [Value.slice.injEq] at hv
           obtain ⟨rfl, -, -⟩ := hv
           refine .inr ⟨h0, gh, oh, (isortL q6).getD 0 default, rfl, ?_, ?_⟩
           · have := hr 2 (.int .i64 ((isortL q6).getD 0 default).due) rfl
             rw [Nat.zero_mul, Nat.add_zero] at this
             exact this
           · cases hL : isortL q6 with
             | nil => rw [hL] at hn6; simp at hn6; omega
             | cons y s => rfl
       have HNX := Lib.hid (next_any b v6 q6 bn6 w6.drew (hP6.keep (Below.refl w6.heap.size w6).drew).lb.box (by omega))
       have HP6 := Lib.hid hP6
       have HB6 := Lib.hid hB6
       have HN6 := Lib.hid hn6
       obtain ⟨nx, hnx⟩ : ∃ nx, nx = nextI q6 := ⟨_, rfl⟩
       rw [← hnx] at hcase HNX
       obtain ⟨g7, hg7⟩ : ∃ g7, g7 = wo.heap.size := ⟨_, rfl⟩
       rw [← hg7] at HB6 ⊢
       clear hP6 hB6 hn6 hF6 hfr6 hnx hg7 hc2
       rcases hcase with ⟨hn0, hnx⟩ | ⟨hn0, gh, oh, y, rfl, hch, hnx⟩
       · have hd6 : decide ((0 : Int) < (n6 : Int)) = false := decide_eq_false (by omega)
         have hd66 : decide (0 < n6) = false := decide_eq_false (by omega)
         subst hnx
         clear hn0
         as_aux_lemma =>
           go_wp2_with fail
           have hPd := HP6.out.keep (Below.refl w6.heap.size w6).drew
           have hBd : Blk w6.drew g7 23 (opCells ⟨z1, z2, z3, id, body⟩).toArray := HB6.out.drew
           have hS6 := s_of hPd hBd
           have hwt := fun w => wait_any z3 w
           have hrwt := fun w => rwait_any z3 w
           obtain ⟨wz, hwz⟩ : ∃ wz, wz = waitI z3 := ⟨_, rfl⟩
           rw [← hwz] at hwt hrwt
           have HWT := Lib.hid hwt
           have HRWT := Lib.hid hrwt
           have HPD := Lib.hid hPd
           have HBD := Lib.hid hBd
           have HQL : Hid ((isortL q6).length ≤ 100) := Lib.hid (by rw [isort_len]; omega)
           clear hwt hrwt hwz hPd hBd
           go_region_held3 (fun w' => w'.cell? ⟨br, 0, none⟩ = some (.slice A6 n6 c6) ∧ w'.cell? ⟨br, 1, none⟩ = some (.int .i64 bn6) ∧ w'.cell? ⟨g7, 2, none⟩ = some (.int .i64 z3)) (assumption) (first
             | (go_at_call 13
                refine HNX.out.mono ?_
                rintro en wN ⟨rfl, rfl⟩)
             | (go_at_call 15
                refine (now_any b v6 q6 bn6 _ HPD.out.lb.box).mono ?_
                rintro en wN ⟨rfl, rfl⟩)
             | (go_at_call 14
                refine (all_any b v6 q6 bn6 _ HPD.out.lb.box (by omega)).mono ?_
                rintro en wA ⟨vA, rfl, hEA, hrA, hbA⟩
                have hPA := HPD.out.keep hbA
                have hBA := HBD.out.below hbA HBD.out.lt
                have hSA := s_of hPA hBA)
             | (go_at_call 19
                refine (as_any (isortL q6) _ wA hEA HQL.out).mono ?_
                rintro en wB ⟨vB, rfl, hEB, hrB, hbB⟩
                have hPB := hPA.keep hbB
                have hBB := hBA.below hbB hBA.lt
                have hSB := s_of hPB hBB)
             | (go_at_call 21
                refine (same_any (isortL q6) _ _ wB hEB hPB.ref.ents HQL.out).mono ?_
                rintro en wC ⟨rfl, hbC⟩
                have hPC := hPB.keep hbC
                have hBC := hBB.below hbC hBB.lt
                have hSC := s_of hPC hBC)
             | (go_at_call 16
                refine (HWT.out _).mono ?_
                rintro en wN ⟨rfl, rfl⟩)
             | (go_at_call 24
                refine (HRWT.out _).mono ?_
                rintro en wN ⟨rfl, rfl⟩)
             | fail)
           all_goals
             go_wp2_with fail
             go_roundw
             case rel =>
               have h1 := HW1.out
               have h2 := HW2.out
               have h3 := HMX.out
               exact ⟨i + 1, mx, bn6, v6, _, q6, by omega, by go_num, by go_num, hmx0, by omega, HF6.out, hPC, ((HO6.out.keep (Below.refl w6.heap.size w6).drew).keep hbA).keep hbB |>.keep hbC⟩
             case measure => simp [intOf]; omega
       · have hd6 : decide ((0 : Int) < (n6 : Int)) = true := decide_eq_true (by omega)
         have hd66 : decide (0 < n6) = true := decide_eq_true hn0
         subst hnx
         as_aux_lemma =>
           go_wp2_with fail
           have hPd := HP6.out.keep (Below.refl w6.heap.size w6).drew
           have hBd : Blk w6.drew g7 23 (opCells ⟨z1, z2, z3, id, body⟩).toArray := HB6.out.drew
           have hS6 := s_of hPd hBd
           have hwt := fun w => wait_any z3 w
           have hrwt := fun w => rwait_any z3 w
           obtain ⟨wz, hwz⟩ : ∃ wz, wz = waitI z3 := ⟨_, rfl⟩
           rw [← hwz] at hwt hrwt
           have HWT := Lib.hid hwt
           have HRWT := Lib.hid hrwt
           have HPD := Lib.hid hPd
           have HBD := Lib.hid hBd
           have HQL : Hid ((isortL q6).length ≤ 100) := Lib.hid (by rw [isort_len]; omega)
           clear hwt hrwt hwz hPd hBd
           go_region_held3 (fun w' => w'.cell? ⟨br, 0, none⟩ = some (.slice (some ⟨gh, oh, none⟩) n6 c6) ∧ w'.cell? ⟨br, 1, none⟩ = some (.int .i64 bn6) ∧ w'.cell? ⟨g7, 2, none⟩ = some (.int .i64 z3)) (assumption) (first
             | (go_at_call 13
                refine HNX.out.mono ?_
                rintro en wN ⟨rfl, rfl⟩)
             | (go_at_call 15
                refine (now_any b v6 q6 bn6 _ HPD.out.lb.box).mono ?_
                rintro en wN ⟨rfl, rfl⟩)
             | (go_at_call 14
                refine (all_any b v6 q6 bn6 _ HPD.out.lb.box (by omega)).mono ?_
                rintro en wA ⟨vA, rfl, hEA, hrA, hbA⟩
                have hPA := HPD.out.keep hbA
                have hBA := HBD.out.below hbA HBD.out.lt
                have hSA := s_of hPA hBA)
             | (go_at_call 19
                refine (as_any (isortL q6) _ wA hEA HQL.out).mono ?_
                rintro en wB ⟨vB, rfl, hEB, hrB, hbB⟩
                have hPB := hPA.keep hbB
                have hBB := hBA.below hbB hBA.lt
                have hSB := s_of hPB hBB)
             | (go_at_call 21
                refine (same_any (isortL q6) _ _ wB hEB hPB.ref.ents HQL.out).mono ?_
                rintro en wC ⟨rfl, hbC⟩
                have hPC := hPB.keep hbC
                have hBC := hBB.below hbC hBB.lt
                have hSC := s_of hPC hBC)
             | (go_at_call 16
                refine (HWT.out _).mono ?_
                rintro en wN ⟨rfl, rfl⟩)
             | (go_at_call 24
                refine (HRWT.out _).mono ?_
                rintro en wN ⟨rfl, rfl⟩)
             | fail)
           all_goals
             go_wp2_with fail
             go_roundw
             case rel =>
               have h1 := HW1.out
               have h2 := HW2.out
               have h3 := HMX.out
               exact ⟨i + 1, mx, bn6, v6, _, q6, by omega, by go_num, by go_num, hmx0, by omega, HF6.out, hPC, ((HO6.out.keep (Below.refl w6.heap.size w6).drew).keep hbA).keep hbB |>.keep hbC⟩
             case measure => simp [intOf]; omega)
    · obtain rfl : i = n := by omega
      have hd : decide ((i : Int) < (i : Int)) = false := decide_eq_false (by omega)
      go_wp2_with fail
      go_ret
      exact ⟨rfl, HP.out.lb.bel⟩
end Go.Proofs.Ytkagfnocpllcpaa.outboxPlays
