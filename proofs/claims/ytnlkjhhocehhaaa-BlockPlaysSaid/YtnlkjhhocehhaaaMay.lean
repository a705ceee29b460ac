/- May: why writes may not be. -/
import Derived.Test.YtnlkjhhocehhaaaDisk
import Derived.Laws.OwnMore
namespace Go.Proofs.Ytnlkjhhocehhaaa
set_option linter.unusedVariables false
open Go Go.RowKit Go.Proofs Sha
theorem WsR.at_ {w : World} {A : Option Addr} {m c : Nat} {l : List Wr} (h : WsR w A m c l) (i : Nat) (hi : i < m) : ∃ g o, A = some ⟨g, o, none⟩ ∧ g < w.heap.size ∧ w.rangeAt g (o + i * 2) (wrC (l.getD i default)) := by
  obtain ⟨h1, h2, h3, h4, h5⟩ := h
  obtain ⟨g, o, hA, hg, hc⟩ := h5.2 (by omega)
  refine ⟨g, o, hA, hg, fun j u hj => ?_⟩
  have hj2 : j < 2 := by have := (List.getElem?_eq_some_iff.1 hj).1; rw [length_wrC] at this; exact this
  rw [Nat.add_assoc]
  exact hc (i * 2 + j) u (by rw [wsC_get l i j (by omega) hj2]; exact hj)
theorem WsR.keep {w w' : World} {A : Option Addr} {m c : Nat} {l : List Wr} (h : WsR w A m c l) (hb : Below w.heap.size w w') : WsR w' A m c l := by
  obtain ⟨h1, h2, h3, h4, h5⟩ := h
  exact ⟨h1, h2, h3, h4, Src.fr h5 (Fr.of_below hb nob) (fun _ _ _ _ h => h)⟩
theorem zero73 (W : World) : (Instr.alloc 73 true (.tuple #[])).run Try.prog W = .ok (.pointer (some ⟨W.heap.size, 0, none⟩)) (W.alloc (.cells (wrC default).toArray 73)) := by kernel_rfl
def moreN (ws : List Wr) (k : Nat) : Nat := (ws.map (fun e => if e.room = (k : Int) then 6 + e.x.length else 0)).sum
def moreL (n : Nat) (ws : List Wr) : List Value := (List.range n).map (fun k => .int .i64 (moreN ws k : Int))
def badW (n : Nat) (e : Wr) : Bool := decide (e.room < 0) || decide ((n : Int) ≤ e.room)
def longW (e : Wr) : Bool := decide (4000 < e.x.length)
def mayD (br : Bool) (lens : List Nat) (ws : List Wr) : Int :=
  if br then 13 else if ws.any (badW lens.length) then 5 else if ws.any longW then 4 else if (List.range lens.length).any (fun k => decide (0 < moreN ws k) && decide (60000 < lens.getD k 0 + moreN ws k)) then 7 else 0
theorem moreN_snoc (ws : List Wr) (e : Wr) (k : Nat) : moreN (ws ++ [e]) k = moreN ws k + if e.room = (k : Int) then 6 + e.x.length else 0 := by
  unfold moreN; simp
theorem moreN_le : ∀ (ws : List Wr) (k : Nat), (∀ e ∈ ws, e.x.length ≤ 10000) → moreN ws k ≤ ws.length * 10006
  | [], k, _ => by simp [moreN]
  | e :: ws, k, h => by
    have ih := moreN_le ws k (fun e he => h e (by simp [he]))
    have he := h e (by simp)
    unfold moreN at ih ⊢
    simp only [List.map_cons, List.sum_cons, List.length_cons]
    split <;> omega
theorem moreL_get (n : Nat) (ws : List Wr) (k : Nat) (hk : k < n) : (moreL n ws).toArray[k]? = some (.int .i64 (moreN ws k : Int)) := by
  unfold moreL; simp [hk]
theorem moreL_set (n : Nat) (ws : List Wr) (e : Wr) (k : Nat) (hk : k < n) (he : e.room = (k : Int)) : (moreL n ws).toArray.setIfInBounds k (.int .i64 ((moreN ws k : Int) + (6 + (e.x.length : Int)))) = (moreL n (ws ++ [e])).toArray := by
  apply Array.ext'
  apply List.ext_getElem?
  intro i
  simp only [moreL, Array.toList_setIfInBounds, List.getElem?_set, List.length_map, List.length_range, List.getElem?_map]
  by_cases hik : k = i
  · subst hik
    rw [if_pos rfl, if_pos hk, List.getElem?_range hk]
    simp only [Option.map_some, moreN_snoc, he, if_true]
    congr 2
  · rw [if_neg hik]
    rcases Nat.lt_or_ge i n with h | h
    · rw [List.getElem?_range h]
      simp only [Option.map_some, moreN_snoc]
      rw [if_neg (by omega), Nat.add_zero]
    · rw [List.getElem?_eq_none (by simpa using h)]
      rfl
theorem info3 : (Try.prog.info? 3).map (fun i => (i.zero, i.size, i.bytes)) = some (some (.int .i64 0), 1, 8) := by kernel_rfl
theorem made_one (v : Value) (n : Nat) : madeCells #[v] n = (List.replicate n v).toArray := Array.ext' (by rw [toList_madeCells_one])
set_option maxRecDepth 100000 in
theorem make28 (n : Nat) (hn : n ≤ 100) (W : World) : (Instr.makeSlice 28 (.int .i64 (n : Int)) (.int .i64 (n : Int))).run Try.prog W = .ok (.slice (some ⟨W.heap.size, 0, none⟩) n n) (W.alloc (.cells (moreL n []).toArray 3)) := by
  have h3 := info3
  cases hi : Try.prog.info? 3 with
  | none => rw [hi] at h3; cases h3
  | some i =>
    rw [hi] at h3
    simp only [Option.map_some, Option.some.injEq, Prod.mk.injEq] at h3
    obtain ⟨h1, h2, h4⟩ := h3
    have := run_makeSlice (P := Try.prog) W 28 3 i (.int .i64 0) Try.underlying28 hi h1 .i64 .i64 (n : Int) (n : Int) (by omega) (Int.le_refl _) (by rw [h2]; omega) (by rw [h4]; omega) (by omega)
    rw [Int.toNat_natCast, h2, Nat.mul_one] at this
    rw [this]
    congr 3
    show madeCells #[Value.int .i64 0] n = _
    rw [made_one]
    congr 1
    unfold moreL moreN
    simp
    rw [List.map_const', List.length_range]
set_option maxRecDepth 100000 in
set_option maxHeartbeats 8000000 in
theorem may_any {w W : World} {d g n : Nat} {vs : List Value} {l : List (List UInt8)} {br : Bool} (h : Dk w W d g n vs l br) (hn : n ≤ 100) (A : Option Addr) (m c : Nat) (ws : List Wr) (hw : WsR W A m c ws) (hm : m ≤ 20) (hx : ∀ e ∈ ws, e.x.length ≤ 10000) (hl : ∀ i, (l.getD i []).length ≤ 200000) :
    Calls Try.prog 81 #[dP d, .slice A m c] W fun e W' => e = .returned (.int .i64 (mayD br (l.map List.length) ws)) ∧ Below W.heap.size W W' := by
  have HBK := Lib.hid (broken_any h)
  have HD := Lib.hid h
  have HW := Lib.hid hw
  have HX := Lib.hid hx
  have HL := Lib.hid hl
  cases br with
  | true =>
    clear h hw hx hl
    go_enter Try.func81, Try.ntmps81
    go_wp2_with (first
      | (go_at_call 56
         refine HBK.out.mono ?_
         rintro e w2 ⟨rfl, rfl⟩)
      | fail)
    go_ret
    exact ⟨rfl, Below.refl _ _⟩
  | false =>
    have hcd : W.cell? ⟨d, 0, none⟩ = some (.slice (some ⟨g, 0, none⟩) n n) := h.blk.cell 0
    have hlen : (l.map List.length).length = n := by rw [List.length_map, h.n2]
    have hmay : mayD false (l.map List.length) ws = if ws.any (badW n) then 5 else if ws.any longW then 4 else if (List.range n).any (fun k => decide (0 < moreN ws k) && decide (60000 < (l.map List.length).getD k 0 + moreN ws k)) then 7 else 0 := by
      unfold mayD; rw [hlen]; rfl
    obtain ⟨rr, hrr⟩ : ∃ rr, rr = mayD false (l.map List.length) ws := ⟨_, rfl⟩
    rw [← hrr] at hmay ⊢
    have HMAY := Lib.hid hmay
    have hni : (n : Int) ≤ 100 := by omega
    have hmi : (m : Int) ≤ 20 := by omega
    have hmk := fun W => make28 n hn W
    clear h hw hx hl hrr hmay hlen
    go_enter Try.func81, Try.ntmps81
    go_wp2_with (first
      | (go_at_call 56
         refine HBK.out.mono ?_
         rintro e w2 ⟨rfl, rfl⟩)
      | fail)
    clear hmk
    obtain ⟨wT, hwT⟩ : ∃ wT, wT = W.alloc (.cells (moreL n []).toArray 3) := ⟨_, rfl⟩
    have hgm : Blk wT W.heap.size 3 (moreL n []).toArray := by rw [hwT]; exact Blk.new W 3 _
    have hBT : Below W.heap.size W wT := by rw [hwT]; exact (Below.refl _ W).alloc (Nat.le_refl _) _
    show Code.wp _ _ _ _ (W.alloc (.cells (moreL n []).toArray 3))
    rw [← hwT]
    obtain ⟨gm, hg⟩ : ∃ gm, gm = W.heap.size := ⟨_, rfl⟩
    rw [← hg] at hgm ⊢
    have HGE := Lib.hid hg
    clear hwT hg
    go_loopw [6, 21] (fun c6 c21 wr => ∃ i : Nat, i ≤ m ∧ c21 = .int .i64 (i : Int) ∧ c6 = .bool ((ws.take i).any longW) ∧ (ws.take i).any (badW n) = false ∧ Blk wr gm 3 (moreL n (ws.take i)).toArray ∧ Below W.heap.size W wr) (fun _ c21 _ => m - (intOf c21).toNat)
    case atStart => exact ⟨0, by omega, rfl, rfl, rfl, hgm, hBT⟩
    case round =>
      obtain ⟨i, hi, rfl, rfl, hbad, hgr, hB⟩ := hrel
      have HBAD := Lib.hid hbad
      have HGR := Lib.hid hgr
      have HB := Lib.hid hB
      obtain ⟨lg, hlg⟩ : ∃ lg, lg = (ws.take i).any longW := ⟨_, rfl⟩
      rw [← hlg]
      have HLG := Lib.hid hlg
      have hmw : m = ws.length := HW.out.1
      by_cases him : i < m
      · have hd : decide ((i : Int) < (m : Int)) = true := decide_eq_true (by omega)
        obtain ⟨gw, ow, rfl, hgw, hrw⟩ := HW.out.at_ i him
        have hrr := rangeAt_below hrw hB hgw
        have hts : ws.take (i + 1) = ws.take i ++ [ws.getD i default] := by
          rw [List.take_succ_eq_append_getElem (by omega)]; simp [show i < ws.length by omega]
        have hxe := HX.out (ws.getD i default) (by simp [show i < ws.length by omega])
        have hmem : ws.getD i default ∈ ws := by simp [show i < ws.length by omega]
        obtain ⟨e, he⟩ : ∃ e, e = ws.getD i default := ⟨_, rfl⟩
        rw [← he] at hrr hts hxe hmem
        obtain ⟨rm, Ae, ce, xe⟩ := e
        have HRW := Lib.hid hrr
        have HTS := Lib.hid hts
        have HMEM := Lib.hid hmem
        have HMW := Lib.hid hmw
        obtain ⟨xl, hxl⟩ : ∃ xl, xl = xe.length := ⟨_, rfl⟩
        have hxe' : xl ≤ 10000 := by rw [hxl]; exact hxe
        have HXL := Lib.hid hxl
        clear hrw hrr hts he hmem hbad hgr hB hlg hmw hxe hgm hBT hxl
        obtain ⟨wo, rfl⟩ : ∃ wo : World, wo = wr := ⟨_, rfl⟩
        by_cases hb : rm < 0 ∨ (n : Int) ≤ rm
        · have hbe : badW n ⟨rm, Ae, ce, xe⟩ = true := by unfold badW; simp; exact hb
          have HBADE := Lib.hid hbe
          clear hbe
          by_cases hr0 : rm < 0
          · have hd0 : decide (rm < 0) = true := decide_eq_true hr0
            go_wp2_with (first
              | (with_reducible refine wpList_load_mid rfl 73 (.tmp 23) rfl gw (ow + i * 2) (by with_unfolding_all rfl) (wrC ⟨rm, Ae, ce, xe⟩) _ HRW.out Try.underlying73 rfl (info73 _) ?_)
              | (with_reducible refine wpList_alloc_run rfl 73 rfl (wrC default).toArray zero73 ?_)
              | (refine wpList_store_blk rfl 73 (.tmp 8) (.tmp 24) rfl wo.heap.size 73 (wrC default).toArray (wrC ⟨rm, Ae, ce, xe⟩).toArray (by rfl) (by rfl) (Blk.new wo 73 _) rfl (info73 _) (one_wr _) ?_
                 intro w2 hb2 hf2
                 have hF2 : Fr nob wo w2 := ((Fr.refl nob wo).alloc _).then hf2 (fun i hi => Or.inr (by unfold one at hi; omega))
                 have hxl9 := HXL.out
                 have hc0 : w2.cell? ⟨wo.heap.size, 0, none⟩ = some (.int .i64 rm) := hb2.cell 0
                 have hc1 : w2.cell? ⟨wo.heap.size, 1, none⟩ = some (.slice Ae xl ce) := by rw [hxl9]; exact hb2.cell 1
                 have hlo : wo.heap.size < w2.heap.size := hb2.lt
                 have HF2 := Lib.hid hF2
                 have HB2 := Lib.hid hb2
                 clear hb2 hf2 hF2 hxl9)
              | fail)
            go_ret
            refine ⟨?_, (HB.out.trans (HF2.out.below_nob.mono HB.out.size))⟩
            have h9 := HMAY.out
            rw [if_pos (List.any_eq_true.2 ⟨_, HMEM.out, HBADE.out⟩)] at h9
            rw [h9]; rfl
          · have hd0 : decide (rm < 0) = false := decide_eq_false hr0
            have hd1 : decide ((n : Int) ≤ rm) = true := decide_eq_true (by omega)
            clear hb
            go_wp2_with (first
              | (with_reducible refine wpList_load_mid rfl 73 (.tmp 23) rfl gw (ow + i * 2) (by with_unfolding_all rfl) (wrC ⟨rm, Ae, ce, xe⟩) _ HRW.out Try.underlying73 rfl (info73 _) ?_)
              | (with_reducible refine wpList_alloc_run rfl 73 rfl (wrC default).toArray zero73 ?_)
              | (refine wpList_store_blk rfl 73 (.tmp 8) (.tmp 24) rfl wo.heap.size 73 (wrC default).toArray (wrC ⟨rm, Ae, ce, xe⟩).toArray (by rfl) (by rfl) (Blk.new wo 73 _) rfl (info73 _) (one_wr _) ?_
                 intro w2 hb2 hf2
                 have hF2 : Fr nob wo w2 := ((Fr.refl nob wo).alloc _).then hf2 (fun i hi => Or.inr (by unfold one at hi; omega))
                 have hxl9 := HXL.out
                 have hc0 : w2.cell? ⟨wo.heap.size, 0, none⟩ = some (.int .i64 rm) := hb2.cell 0
                 have hc1 : w2.cell? ⟨wo.heap.size, 1, none⟩ = some (.slice Ae xl ce) := by rw [hxl9]; exact hb2.cell 1
                 have hlo : wo.heap.size < w2.heap.size := hb2.lt
                 have HF2 := Lib.hid hF2
                 have HB2 := Lib.hid hb2
                 clear hb2 hf2 hF2 hxl9)
              | fail)
            go_ret
            refine ⟨?_, (HB.out.trans (HF2.out.below_nob.mono HB.out.size))⟩
            have h9 := HMAY.out
            rw [if_pos (List.any_eq_true.2 ⟨_, HMEM.out, HBADE.out⟩)] at h9
            rw [h9]; rfl
        · have hd0 : decide (rm < 0) = false := decide_eq_false (by omega)
          have hd1 : decide ((n : Int) ≤ rm) = false := decide_eq_false (by omega)
          obtain ⟨k, hk⟩ : ∃ k : Nat, rm = (k : Int) := ⟨rm.toNat, by omega⟩
          subst hk
          have hkn : (k : Int) < (n : Int) := by omega
          have hk0 : (0 : Int) ≤ (k : Int) := by omega
          have hkn' : ¬ n ≤ k := by omega
          have hd2 : decide (n ≤ k) = false := decide_eq_false (by omega)
          clear hb
          cases lg with
          | true =>
            as_aux_lemma =>
              go_wp2_with (first
                | (with_reducible refine wpList_load_mid rfl 73 (.tmp 23) rfl gw (ow + i * 2) (by with_unfolding_all rfl) (wrC ⟨(k : Int), Ae, ce, xe⟩) _ HRW.out Try.underlying73 rfl (info73 _) ?_)
                | (with_reducible refine wpList_alloc_run rfl 73 rfl (wrC default).toArray zero73 ?_)
                | (refine wpList_store_blk rfl 73 (.tmp 8) (.tmp 24) rfl wo.heap.size 73 (wrC default).toArray (wrC ⟨(k : Int), Ae, ce, xe⟩).toArray (by rfl) (by rfl) (Blk.new wo 73 _) rfl (info73 _) (one_wr _) ?_
                   intro w2 hb2 hf2
                   have hF2 : Fr nob wo w2 := ((Fr.refl nob wo).alloc _).then hf2 (fun i hi => Or.inr (by unfold one at hi; omega))
                   have hxl9 := HXL.out
                   have hc0 : w2.cell? ⟨wo.heap.size, 0, none⟩ = some (.int .i64 (k : Int)) := hb2.cell 0
                   have hc1 : w2.cell? ⟨wo.heap.size, 1, none⟩ = some (.slice Ae xl ce) := by rw [hxl9]; exact hb2.cell 1
                   have hlo : wo.heap.size < w2.heap.size := hb2.lt
                   have HF2 := Lib.hid hF2
                   have HB2 := Lib.hid hb2
                   clear hb2 hf2 hF2 hxl9)
                | fail)
              have hgr2 := HGR.out.fr HF2.out (fun h => h)
              have hgk : w2.cell? ⟨gm, k, none⟩ = some (.int .i64 (moreN (ws.take i) k : Int)) := by rw [hgr2.cell]; exact moreL_get n _ k (by omega)
              have hgf := hgr2.frozen k
              have hgl : gm < w2.heap.size := hgr2.lt
              have hMl := moreN_le (ws.take i) k (fun e he => HX.out e (List.mem_of_mem_take he))
              rw [List.length_take] at hMl
              obtain ⟨M, hM⟩ : ∃ M, M = moreN (ws.take i) k := ⟨_, rfl⟩
              rw [← hM] at hgk hMl
              have hMi : (M : Int) ≤ 200120 := by omega
              have HM := Lib.hid hM
              have HG2 := Lib.hid hgr2
              have hxli : (xl : Int) ≤ 10000 := by omega
              clear hM hMl hgr2
              refine wp_region_pre 11 0 (by kernel_rfl) (by kernel_rfl) rfl ?_
              simp only [List.take_succ_cons, List.take_zero, List.drop_succ_cons, List.drop_zero]
              repeat (go_big_quiet_step (fail))
              refine wpQuiet_nil ?_
              intro w3 hb3
              have hg3 := HG2.out.below hb3 HG2.out.lt
              have hgk3 : w3.cell? ⟨gm, k, none⟩ = some (.int .i64 (M : Int)) := by
                rw [HM.out, hg3.cell]; exact moreL_get n _ k (by omega)
              have hgf3 := hg3.frozen k
              have HG3 := Lib.hid hg3
              have HB3 := Lib.hid hb3
              clear hgk hgf hg3 hb3
              go_wp2_with fail
              go_roundw
              case rel =>
                refine ⟨i + 1, by omega, by go_num, ?_, ?_, ?_, ?_⟩
                · rw [HTS.out, List.any_append, ← HLG.out]
                  simp [longW, HXL.out]
                  try omega
                · rw [HTS.out, List.any_append, HBAD.out]
                  simp [badW]
                  omega
                · rw [HTS.out]
                  have h8 := HG3.out.set_ k (.int .i64 ((M : Int) + (6 + (xl : Int))))
                  rw [HM.out, HXL.out] at h8
                  rw [← moreL_set n (ws.take i) ⟨(k : Int), Ae, ce, xe⟩ k (by omega) rfl]
                  rw [HM.out, HXL.out]
                  exact h8
                · have s1 := HB.out.size
                  have s2 := HF2.out.size
                  exact ((HB.out.trans (HF2.out.below_nob.mono s1)).trans (HB3.out.mono (by omega))).trans (((Fr.refl (one gm) w3).setCell' (.inl rfl) _).below (by have := HB3.out.size; omega) (fun q hq => by unfold one at hq; subst hq; have := HGE.out; omega))
              case measure => simp [intOf]; omega
          | false =>
            as_aux_lemma =>
              go_wp2_with (first
                | (with_reducible refine wpList_load_mid rfl 73 (.tmp 23) rfl gw (ow + i * 2) (by with_unfolding_all rfl) (wrC ⟨(k : Int), Ae, ce, xe⟩) _ HRW.out Try.underlying73 rfl (info73 _) ?_)
                | (with_reducible refine wpList_alloc_run rfl 73 rfl (wrC default).toArray zero73 ?_)
                | (refine wpList_store_blk rfl 73 (.tmp 8) (.tmp 24) rfl wo.heap.size 73 (wrC default).toArray (wrC ⟨(k : Int), Ae, ce, xe⟩).toArray (by rfl) (by rfl) (Blk.new wo 73 _) rfl (info73 _) (one_wr _) ?_
                   intro w2 hb2 hf2
                   have hF2 : Fr nob wo w2 := ((Fr.refl nob wo).alloc _).then hf2 (fun i hi => Or.inr (by unfold one at hi; omega))
                   have hxl9 := HXL.out
                   have hc0 : w2.cell? ⟨wo.heap.size, 0, none⟩ = some (.int .i64 (k : Int)) := hb2.cell 0
                   have hc1 : w2.cell? ⟨wo.heap.size, 1, none⟩ = some (.slice Ae xl ce) := by rw [hxl9]; exact hb2.cell 1
                   have hlo : wo.heap.size < w2.heap.size := hb2.lt
                   have HF2 := Lib.hid hF2
                   have HB2 := Lib.hid hb2
                   clear hb2 hf2 hF2 hxl9)
                | fail)
              have hgr2 := HGR.out.fr HF2.out (fun h => h)
              have hgk : w2.cell? ⟨gm, k, none⟩ = some (.int .i64 (moreN (ws.take i) k : Int)) := by rw [hgr2.cell]; exact moreL_get n _ k (by omega)
              have hgf := hgr2.frozen k
              have hgl : gm < w2.heap.size := hgr2.lt
              have hMl := moreN_le (ws.take i) k (fun e he => HX.out e (List.mem_of_mem_take he))
              rw [List.length_take] at hMl
              obtain ⟨M, hM⟩ : ∃ M, M = moreN (ws.take i) k := ⟨_, rfl⟩
              rw [← hM] at hgk hMl
              have hMi : (M : Int) ≤ 200120 := by omega
              have HM := Lib.hid hM
              have HG2 := Lib.hid hgr2
              have hxli : (xl : Int) ≤ 10000 := by omega
              clear hM hMl hgr2
              refine wp_region_pre 11 0 (by kernel_rfl) (by kernel_rfl) rfl ?_
              simp only [List.take_succ_cons, List.take_zero, List.drop_succ_cons, List.drop_zero]
              repeat (go_big_quiet_step (fail))
              refine wpQuiet_nil ?_
              intro w3 hb3
              have hg3 := HG2.out.below hb3 HG2.out.lt
              have hgk3 : w3.cell? ⟨gm, k, none⟩ = some (.int .i64 (M : Int)) := by
                rw [HM.out, hg3.cell]; exact moreL_get n _ k (by omega)
              have hgf3 := hg3.frozen k
              have HG3 := Lib.hid hg3
              have HB3 := Lib.hid hb3
              clear hgk hgf hg3 hb3
              go_wp2_with fail
              go_roundw
              case rel =>
                refine ⟨i + 1, by omega, by go_num, ?_, ?_, ?_, ?_⟩
                · rw [HTS.out, List.any_append, ← HLG.out]
                  simp [longW, HXL.out]
                  try omega
                · rw [HTS.out, List.any_append, HBAD.out]
                  simp [badW]
                  omega
                · rw [HTS.out]
                  have h8 := HG3.out.set_ k (.int .i64 ((M : Int) + (6 + (xl : Int))))
                  rw [HM.out, HXL.out] at h8
                  rw [← moreL_set n (ws.take i) ⟨(k : Int), Ae, ce, xe⟩ k (by omega) rfl]
                  rw [HM.out, HXL.out]
                  exact h8
                · have s1 := HB.out.size
                  have s2 := HF2.out.size
                  exact ((HB.out.trans (HF2.out.below_nob.mono s1)).trans (HB3.out.mono (by omega))).trans (((Fr.refl (one gm) w3).setCell' (.inl rfl) _).below (by have := HB3.out.size; omega) (fun q hq => by unfold one at hq; subst hq; have := HGE.out; omega))
              case measure => simp [intOf]; omega
      · obtain rfl : i = m := by omega
        have hd : decide ((i : Int) < (i : Int)) = false := decide_eq_false (by omega)
        have htk : ws.take i = ws := List.take_of_length_le (by omega)
        rw [htk] at HBAD HGR HLG
        have hm2 := HMAY.out
        rw [if_neg (by rw [HBAD.out]; simp), ← HLG.out] at hm2
        have HM2 := Lib.hid hm2
        clear htk hgm hBT hmw hm2 hB hgr hbad hlg
        cases lg with
        | true =>
          go_wp2_with fail
          go_ret
          refine ⟨?_, HB.out⟩
          have h9 := HM2.out
          rw [if_pos (by simp)] at h9
          rw [h9]; rfl
        | false =>
          have hm3 := HM2.out
          rw [if_neg (by simp)] at hm3
          have HM3 := Lib.hid hm3
          clear hm3
          obtain ⟨wo, rfl⟩ : ∃ wo : World, wo = wr := ⟨_, rfl⟩
          go_wp2_with fail
          go_loopw [57] (fun c57 wx => ∃ k : Nat, k ≤ n ∧ c57 = .int .i64 (k : Int) ∧ (∀ j, j < k → (decide (0 < moreN ws j) && decide (60000 < (l.map List.length).getD j 0 + moreN ws j)) = false) ∧ wx = wo) (fun c57 _ => n - (intOf c57).toNat)
          case atStart => exact ⟨0, by omega, rfl, fun j hj => by omega, rfl⟩
          case round =>
            obtain ⟨k, hk, rfl, hno, rfl⟩ := hrel
            have HNO := Lib.hid hno
            clear hno
            by_cases hkn : k < n
            · have hd2 : decide ((k : Int) < (n : Int)) = true := decide_eq_true (by omega)
              have hdk := HD.out.keep HB.out
              have hcd2 : wr.cell? ⟨d, 0, none⟩ = some (.slice (some ⟨g, 0, none⟩) n n) := hdk.blk.cell 0
              have hck := hdk.cell k hkn
              obtain ⟨Au, cu, hvu, -, -⟩ := (hdk.own k hkn).shape
              rw [hvu] at hck
              have hgk : wr.cell? ⟨gm, k, none⟩ = some (.int .i64 (moreN ws k : Int)) := by rw [HGR.out.cell]; exact moreL_get n _ k hkn
              have hMl := moreN_le ws k HX.out
              have hll := HL.out k
              have hgd : (l.map List.length).getD k 0 = (l.getD k []).length := by
                simp only [List.getD_eq_getElem?_getD, List.getElem?_map]
                rw [List.getElem?_eq_getElem (by rw [hdk.n2]; exact hkn)]; rfl
              obtain ⟨M, hM⟩ : ∃ M, M = moreN ws k := ⟨_, rfl⟩
              obtain ⟨ll, hlle⟩ : ∃ ll, ll = (l.getD k []).length := ⟨_, rfl⟩
              rw [← hlle] at hck hll hgd
              rw [← hM] at hgk hMl
              have hMi : (M : Int) ≤ 200120 := by have := HW.out.1; omega
              have hli : (ll : Int) ≤ 200000 := by omega
              have hk0 : (0 : Int) ≤ (k : Int) := by omega
              have hkn3 : (k : Int) < (n : Int) := by omega
              have HMM := Lib.hid hM
              have HGD := Lib.hid hgd
              clear hdk hvu hMl hll hgd hM hlle
              by_cases h0 : 0 < M
              · have h01 : decide ((0 : Int) < (M : Int)) = true := decide_eq_true (by omega)
                have h02 : decide (0 < M) = true := decide_eq_true h0
                by_cases h6 : 60000 < ll + M
                · have h61 : decide ((60000 : Int) < (ll : Int) + (M : Int)) = true := decide_eq_true (by omega)
                  go_wp2_with fail
                  go_ret
                  refine ⟨?_, HB.out⟩
                  have h9 := HM3.out
                  rw [if_pos (List.any_eq_true.2 ⟨k, List.mem_range.2 hkn, by rw [HGD.out, ← HMM.out]; simp [h0, h6]⟩)] at h9
                  rw [h9]; rfl
                · have h61 : decide ((60000 : Int) < (ll : Int) + (M : Int)) = false := decide_eq_false (by omega)
                  go_wp2_with fail
                  go_roundw
                  case rel =>
                    refine ⟨k + 1, by omega, by go_num, fun j hj => ?_, trivial⟩
                    rcases Nat.lt_or_ge j k with h | h
                    · exact HNO.out j h
                    · obtain rfl : j = k := by omega
                      rw [HGD.out, ← HMM.out]; simp [h6]
                  case measure => simp [intOf]; omega
              · have h01 : decide ((0 : Int) < (M : Int)) = false := decide_eq_false (by omega)
                have h02 : decide (0 < M) = false := decide_eq_false h0
                go_wp2_with fail
                go_roundw
                case rel =>
                  refine ⟨k + 1, by omega, by go_num, fun j hj => ?_, trivial⟩
                  rcases Nat.lt_or_ge j k with h | h
                  · exact HNO.out j h
                  · obtain rfl : j = k := by omega
                    rw [← HMM.out]; simp [h0]
                case measure => simp [intOf]; omega
            · obtain rfl : k = n := by omega
              have hd2 : decide ((k : Int) < (k : Int)) = false := decide_eq_false (by omega)
              go_wp2_with fail
              go_ret
              refine ⟨?_, HB.out⟩
              have h9 := HM3.out
              rw [if_neg (fun hh => by
                obtain ⟨j, hj1, hj2⟩ := List.any_eq_true.1 hh
                rw [HNO.out j (List.mem_range.1 hj1)] at hj2
                cases hj2)] at h9
              rw [h9]; rfl
end Go.Proofs.Ytnlkjhhocehhaaa
