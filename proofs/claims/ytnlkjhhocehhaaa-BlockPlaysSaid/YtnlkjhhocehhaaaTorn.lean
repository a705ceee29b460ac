/- The disk's steps in terms of each room's records. -/
import Derived.Test.YtnlkjhhocehhaaaStep
namespace Go.Proofs.Ytnlkjhhocehhaaa
set_option linter.unusedVariables false
open Go Go.RowKit Go.Proofs Sha
set_option maxRecDepth 100000 in
set_option maxHeartbeats 8000000 in
/-- Up: no new block is one of the rooms' (the walk of Up2, with a stronger end). -/
theorem up_strong {w W : World} {d g n : Nat} {vs : List Value} {l : List (List UInt8)} {br : Bool} (h : Dk w W d g n vs l br) (hn : n ≤ 100) (hl : ∀ i, (l.getD i []).length ≤ 200000) :
    Calls Try.prog 57 #[dP d] W fun e W' => ∃ v, e = .returned v ∧ LLs (newer W) W' v (l.map (fun b => (scanB b).1)) ∧ ∃ vs', Dk w W' d g n vs' (l.map cutB) false ∧ Fr (dfoot d g n vs) W W' ∧ ∀ i, i < n → ∀ k, rowOf (vs'.getD i undef) k → dfoot d g n vs k := by
  obtain ⟨i2, hi2, hy0, hy1, hy2⟩ : ∃ i, Try.prog.info? 48 = some i ∧ i.zero = some (.slice none 0 0) ∧ i.size = 1 ∧ i.bytes = 24 := by
    have := info48
    cases hi : Try.prog.info? 48 with
    | none => rw [hi] at this; cases this
    | some i =>
      rw [hi] at this
      simp only [Option.map_some, Option.some.injEq, Prod.mk.injEq] at this
      exact ⟨i, rfl, this.1, this.2.1, this.2.2⟩
  have hcd : W.cell? ⟨d, 0, none⟩ = some (.slice (some ⟨g, 0, none⟩) n n) := h.blk.cell 0
  have HD := Lib.hid h
  have HL := Lib.hid hl
  have hn2 := h.n2
  have HN2 := Lib.hid hn2
  clear h hl hn2
  go_enter Try.func57, Try.ntmps57
  go_wp2_with fail
  go_loopw [3, 15] (fun c3 c15 wr => ∃ (i : Nat) (vs1 : List Value), i ≤ n ∧ c15 = .int .i64 (i : Int) ∧ LLs (newer W) wr c3 ((l.take i).map (fun b => (scanB b).1)) ∧ Dk w wr d g n vs1 (upTo i l) br ∧ Fr (dfoot d g n vs) W wr ∧ (∀ j, j < n → ∀ k, rowOf (vs1.getD j undef) k → dfoot d g n vs k) ∧ (∀ j, i ≤ j → j < n → vs1.getD j undef = vs.getD j undef)) (fun _ c15 _ => n - (intOf c15).toNat)
  case atStart => exact ⟨0, vs, by omega, rfl, LLs.nil, by have := HD.out; unfold upTo; simpa using this, Fr.refl _ _, fun j hj k hk => .inr (.inr ⟨j, hj, hk⟩), fun j _ _ => rfl⟩
  case round =>
    obtain ⟨i, vs1, hi, rfl, hLL, hD, hF, hR, hV⟩ := hrel
    have HLL := Lib.hid hLL
    have HDD := Lib.hid hD
    have HFF := Lib.hid hF
    have HRR := Lib.hid hR
    have HVV := Lib.hid hV
    clear hLL hD hF hR hV
    by_cases hin : i < n
    · have hd : decide ((i : Int) < (n : Int)) = true := decide_eq_true (by omega)
      have hck := HDD.out.cell i hin
      have hle : (upTo i l).getD i [] = l.getD i [] := by rw [upTo_at i l i (by rw [HN2.out]; exact hin), if_neg (by omega)]
      have hown := HDD.out.own i hin
      rw [hle] at hown
      obtain ⟨A, c, hv, hc1, hc2, hby, hA⟩ := Sl.of_own hown
      have hll := HL.out i
      obtain ⟨b, hb⟩ : ∃ b, b = l.getD i [] := ⟨_, rfl⟩
      rw [← hb] at hv hc1 hby hll hle
      have hst := scan_told _ b (Nat.le_refl _)
      have HS := Lib.hid (scan_any b A c wr hby (by omega) hc1 hc2 hA)
      obtain ⟨m, hm⟩ : ∃ m, m = b.length := ⟨_, rfl⟩
      obtain ⟨t, ht⟩ : ∃ t, t = (scanB b).2 := ⟨_, rfl⟩
      rw [← ht] at HS hst
      rw [← hm] at HS hst hc1 hll
      obtain ⟨-, htm⟩ := hst
      rw [hv, ← hm] at hck
      have hi0 : (0 : Int) ≤ (i : Int) := by omega
      have hini : (i : Int) < (n : Int) := by omega
      have hti : (t : Int) ≤ (m : Int) := by omega
      have htc : (t : Int) ≤ (c : Int) := by omega
      have htc' : t ≤ c := by omega
      have HB := Lib.hid hb
      have HT := Lib.hid ht
      have HM := Lib.hid hm
      have HV0 := Lib.hid hv
      have HLE := Lib.hid hle
      clear hb ht hm hv hown hby hA hle hc2 hll
      obtain ⟨wo, rfl⟩ : ∃ wo : World, wo = wr := ⟨_, rfl⟩
      go_wp2_with (first
        | (go_at_call 45
           refine HS.out.mono ?_
           rintro e w2 ⟨v2, rfl, hL2, hb2⟩
           obtain ⟨A2, c2, hv2, -, -⟩ := hL2.ls.shape
           have HV2 := Lib.hid hv2
           subst hv2)
        | fail)
      have hD2 := HDD.out.keep hb2
      have hcd2 : w2.cell? ⟨d, 0, none⟩ = some (.slice (some ⟨g, 0, none⟩) n n) := hD2.blk.cell 0
      have hld : d < w2.heap.size := hD2.blk.lt
      have HD2 := Lib.hid hD2
      have HB2 := Lib.hid hb2
      have HL2 := Lib.hid hL2
      clear hD2 hb2 hL2
      refine wp_region_pre 10 0 (by kernel_rfl) (by kernel_rfl) rfl ?_
      simp only [List.take_succ_cons, List.take_zero, List.drop_succ_cons, List.drop_zero]
      repeat (go_big_quiet_step (fail))
      refine wpQuiet_nil ?_
      intro w3 hb3
      have hD3 := HD2.out.keep hb3
      have hcg := hD3.arr.cell i
      have hcg' : w3.cell? ⟨g, i, none⟩ = some (vs1.getD i undef) := hD3.cell i hin
      have hfg := hD3.arr.frozen i
      have hD4 := hD3.cut i hin t (by rw [HLE.out, ← HM.out]; exact htm) A c (by rw [HLE.out, HV0.out])
      have hS : Fr (one g) w3 (w3.setCell ⟨g, i, none⟩ (.slice A t t)) := (Fr.refl (one g) w3).setCell' (.inl rfl) _
      have hgW : g < W.heap.size := HD.out.arr.lt
      have hBo3 : Below wo.heap.size wo w3 := HB2.out.trans (hb3.mono HB2.out.size)
      obtain ⟨us, hu1, hu2, hu3, hu4⟩ := (HLL.out.keep hBo3).fr hS (fun k hk => by unfold one at hk; subst hk; unfold newer; omega)
      have hL4 : LsP (newer W) (w3.setCell ⟨g, i, none⟩ (.slice A t t)) _ _ := (((HL2.out.keep hb3).mono (fun k hk => by unfold newer at hk ⊢; have := HFF.out.size; omega))).fr hS (fun k hk => by unfold one at hk; subst hk; unfold newer; omega)
      have hW4 : Fr (dfoot d g n vs) W (w3.setCell ⟨g, i, none⟩ (.slice A t t)) := (HFF.out.trans (Fr.of_below hBo3 _)).then hS (fun k hk => by unfold one at hk; subst hk; exact .inl (.inr (.inl rfl)))
      rw [hcg'] at hcg
      have HCG := Lib.hid hcg
      obtain ⟨w4, hw4⟩ : ∃ w4, w4 = w3.setCell ⟨g, i, none⟩ (.slice A t t) := ⟨_, rfl⟩
      rw [← hw4] at hD4 hu2 hu4 hL4 hW4
      have hb5 : Below w4.heap.size w4 (w4.alloc (.cells #[.slice A2 (scanB b).1.length c2] 48)) := (Below.refl _ w4).alloc (Nat.le_refl _) _
      have hO5 : Own (w4.alloc (.cells #[.slice A2 (scanB b).1.length c2] 48)) 48 1 u3 ((l.take i).map (fun b => (scanB b).1)).length us := Own.fr hu2 (Fr.of_below hb5 nob) (fun _ h => h.elim)
      have hS5 : Src (w4.alloc (.cells #[.slice A2 (scanB b).1.length c2] 48)) 1 (some ⟨w4.heap.size, 0, none⟩) 1 [.slice A2 (scanB b).1.length c2] := Src.of_new w4 48 #[.slice A2 (scanB b).1.length c2] 1 rfl
      have hrl : ((l.take i).map (fun b => (scanB b).1)).length = i := by rw [List.length_map, List.length_take, HN2.out]; omega
      have hsz : w4.heap.size = w3.heap.size := by rw [hw4]; simp [World.setCell]
      rw [hsz] at hS5
      clear hsz
      have HO5 := Lib.hid hO5
      have HS5 := Lib.hid hS5
      have HB5 := Lib.hid hb5
      have HW4 := Lib.hid hw4
      have HU1 := Lib.hid hu1
      have HU3 := Lib.hid hu3
      have HU4 := Lib.hid hu4
      have HL4 := Lib.hid hL4
      have HD4 := Lib.hid hD4
      have HF4 := Lib.hid hW4
      have HRL := Lib.hid hrl
      clear hcg hu1 hu2 hu3 hu4 hL4 hD4 hW4 hb5 hO5 hS5 hw4 hS hBo3 hD3 hrl
      go_wp2_with (first
        | (at_builtin
           rw [← HW4.out]
           refine wpList_append_o _ rfl (.tmp 35) (.tmp 37) 70 rfl 48 i2 (.slice none 0 0) 1 24 Try.underlying70 hi2 hy0 hy1 hy2 (by rfl) (by omega) u3 _ us (by rfl) HO5.out (some ⟨w3.heap.size, 0, none⟩) 1 1 [.slice A2 (scanB b).1.length c2] (by rfl) HS5.out (by simp [Value.oneCell']) (by rw [HRL.out]; simp only [maxLen]; omega) (by rw [HRL.out]; omega) ?_
           intro v6 w6 hown6 hf6 hr6
           simp only [Act.put, List.setIfInBounds_toArray, List.set_cons_zero, List.set_cons_succ])
        | fail)
      go_roundw
      case rel =>
        have s4 := HF4.out.size
        have hts : (l.take (i + 1)).map (fun b => (scanB b).1) = (l.take i).map (fun b => (scanB b).1) ++ [(scanB b).1] := by
          rw [List.take_succ_eq_append_getElem (by rw [HN2.out]; exact hin), List.map_append, HB.out]
          simp [show i < l.length by rw [HN2.out]; exact hin]
        have hF6 : Fr (dfoot d g n vs) W w6 := (HF4.out.trans (Fr.of_below HB5.out _)).then hf6 (fun k hk => .inr (HU3.out k hk))
        have hup : upTo (i + 1) l = (upTo i l).set i (((upTo i l).getD i []).take t) := by
          rw [upTo_succ i l (by rw [HN2.out]; exact hin), HLE.out, ← HB.out, HT.out]; rfl
        refine ⟨i + 1, vs1.set i (.slice A t t), by omega, by go_num, ?_, ?_, hF6, fun j hj k hk => ?_, fun j hj1 hj2 => ?_⟩
        · rw [hts]
          refine LLs.snoc HU1.out hown6 (fun k hk => (hr6 k hk).elim (HU3.out k) (fun h => by rw [World.size_alloc] at h; unfold newer; omega)) (fun j hj => ((HU4.out j hj).keep HB5.out).fr_row HO5.out (by decide) (by decide) hf6) ((HL4.out.keep HB5.out).fr_row HO5.out (by decide) (by decide) hf6)
        · rw [hup]
          exact (HD4.out.keep HB5.out).fr_row HO5.out (by decide) (by decide) (by decide) hf6 (fun k hk => by have := HU3.out k hk; unfold newer at this; have := HD.out.bel.size; omega)
        · by_cases e : j = i
          · subst e
            have : (vs1.set j (.slice A t t)).getD j undef = .slice A t t := by simp [show j < vs1.length by rw [HDD.out.n1]; exact hj]
            rw [this] at hk
            exact HRR.out j hj k (by rw [HV0.out]; cases A <;> exact hk)
          · have : (vs1.set i (.slice A t t)).getD j undef = vs1.getD j undef := by simp only [List.getD_eq_getElem?_getD]; rw [List.getElem?_set_ne (fun h => e h.symm)]
            rw [this] at hk
            exact HRR.out j hj k hk
        · have : (vs1.set i (.slice A t t)).getD j undef = vs1.getD j undef := by simp only [List.getD_eq_getElem?_getD]; rw [List.getElem?_set_ne (by omega)]
          rw [this]
          exact HVV.out j (by omega) hj2
      case measure => simp [intOf]; omega
    · obtain rfl : i = n := by omega
      have hd : decide ((i : Int) < (i : Int)) = false := decide_eq_false (by omega)
      have hcdb : wr.cell? ⟨d, 1, none⟩ = some (.bool br) := HDD.out.blk.cell 1
      have hfd := HDD.out.blk.frozen 1
      obtain ⟨us, hu1, hu2, -, -⟩ := HLL.out
      obtain ⟨A3, c3, hv3, -, -⟩ := hu2.shape
      have htk : (l.take i) = l := List.take_of_length_le (by rw [HN2.out]; omega)
      rw [htk] at HLL hv3
      have hall : upTo i l = l.map cutB := by rw [← HN2.out]; exact upTo_all l
      rw [hall] at HDD
      clear htk hall hu1 hu2
      subst hv3
      go_wp2_with fail
      go_ret
      refine ⟨_, rfl, HLL.out.fr ((Fr.refl (one d) wr).setCell' (.inl rfl) _) (fun k hk => ?_), vs1, HDD.out.break_ false, HFF.out.setCell' (.inl (.inl rfl)) _, HRR.out⟩
      unfold one at hk
      subst hk
      have := HD.out.blk.lt
      unfold newer
      omega
/-- Rooms, each with its records and what isn't a record behind them. -/
def Torn (n : Nat) (l : List (List UInt8)) (L : List (List (List UInt8))) : Prop := l.length = n ∧ L.length = n ∧ ∀ k, k < n → (∃ t, l.getD k [] = recs (L.getD k []) ++ t ∧ nextB t = none) ∧ (∀ x ∈ L.getD k [], x.length ≤ 4000) ∧ (L.getD k []).length ≤ 1000000 ∧ (l.getD k []).length ≤ 60000
section
variable {n : Nat} {l : List (List UInt8)} {L : List (List (List UInt8))} {br : Bool}
theorem Rooms.torn (h : Rooms n l L) : Torn n l L := ⟨h.1, h.2.1, fun k hk => ⟨⟨[], by rw [List.append_nil]; exact (h.2.2 k hk).1, nextB_nil⟩, (h.2.2 k hk).2⟩⟩
theorem Torn.le (h : Torn n l L) : ∀ i, (l.getD i []).length ≤ 60000 := fun i => by
  by_cases hi : i < n
  · exact (h.2.2 i hi).2.2.2
  · have h1 := h.1
    rw [show l.getD i [] = [] by simp [List.getD_eq_getElem?_getD, List.getElem?_eq_none (show l.length ≤ i by omega)]]
    exact Nat.zero_le _
theorem Torn.scan (h : Torn n l L) (k : Nat) (hk : k < n) : (scanB (l.getD k [])).1 = L.getD k [] ∧ cutB (l.getD k []) = recs (L.getD k []) := by
  obtain ⟨⟨t, a1, at_⟩, a2, -, -⟩ := h.2.2 k hk
  rw [a1]
  exact scan_tail _ t a2 at_
theorem Torn.map_scan (h : Torn n l L) : l.map (fun b => (scanB b).1) = L := by
  refine List.ext_getElem (by rw [List.length_map, h.1, h.2.1]) (fun i h1 h2 => ?_)
  have h3 := (h.scan i (by rw [← h.2.1]; exact h2)).1
  rw [List.length_map] at h1
  simpa [List.getD_eq_getElem?_getD, h1, h2] using h3
theorem Torn.cut (h : Torn n l L) : Rooms n (l.map cutB) L := by
  refine ⟨by rw [List.length_map]; exact h.1, h.2.1, fun k hk => ?_⟩
  obtain ⟨⟨t, a1, at_⟩, a2, a3, a4⟩ := h.2.2 k hk
  have h1 := h.1
  have hg : (l.map cutB).getD k [] = cutB (l.getD k []) := by
    simp [List.getD_eq_getElem?_getD, show k < l.length by omega]
  rw [hg, (h.scan k hk).2]
  refine ⟨rfl, a2, a3, ?_⟩
  rw [a1, List.length_append] at a4
  omega
theorem Rooms.part {ws : List Wr} (room k torn : Int) (h : Rooms n l L) (hz : mayD br (l.map List.length) ws = 0) :
    Torn n ((isortL ws).foldl (partStep room k torn) (l, 0)).1 (addL n L (fun r => partL room k torn (r : Int) (sel (r : Int) ws))) := by
  obtain ⟨h1, h2, h3⟩ := h
  obtain ⟨-, hw, hm⟩ := mayD_zero hz
  rw [List.length_map, h1] at hw hm
  refine ⟨by rw [partStep_len]; exact h1, by simp [addL], fun r hr => ?_⟩
  obtain ⟨a1, a2, a3, a4⟩ := h3 r hr
  have hsx : ∀ x ∈ sel (r : Int) ws, x.length ≤ 4000 := fun x hx => by
    obtain ⟨e, he, rfl⟩ := sel_mem hx
    exact (hw e he).2
  rw [addL_get _ _ _ _ hr, part_get room k torn n r hr ws l h1 hw, a1, recs_append, ← List.append_assoc]
  have hpl := part_len room k torn (r : Int) (sel (r : Int) ws)
  rw [recs_sel] at hpl
  have hlen : (recs (L.getD r []) ++ recs (partL room k torn (r : Int) (sel (r : Int) ws)) ++ partT room k torn (r : Int) (sel (r : Int) ws)).length ≤ 60000 := by
    rw [List.length_append, List.length_append, ← a1]
    have := hm r hr
    rw [getD_lens] at this
    omega
  refine ⟨⟨_, rfl, partT_none room k torn (r : Int) _ hsx⟩, fun x hx => ?_, ?_, hlen⟩
  · rcases List.mem_append.1 hx with hx | hx
    · exact a2 x hx
    · exact hsx x (partL_mem hx)
  · have h5 := recs_count (L.getD r [] ++ partL room k torn (r : Int) (sel (r : Int) ws))
    rw [recs_append] at h5
    simp only [List.length_append] at h5 hlen ⊢
    omega
/-- What holds of a disk at all times. -/
def Inv (n : Nat) (l : List (List UInt8)) (L : List (List (List UInt8))) (br : Bool) : Prop := Torn n l L ∧ (br = false → Rooms n l L)
theorem Rooms.inv (h : Rooms n l L) (br : Bool) : Inv n l L br := ⟨h.torn, fun _ => h⟩
def mayR (br : Bool) (L : List (List (List UInt8))) (ws : List Wr) : Int := mayD br (L.map (fun R => (recs R).length)) ws
def writeR (n : Nat) (L : List (List (List UInt8))) (ws : List Wr) (br : Bool) : List (List (List UInt8)) := if mayR br L ws = 0 then addL n L (fun k => sel (k : Int) ws) else L
def partR (n : Nat) (L : List (List (List UInt8))) (ws : List Wr) (br : Bool) (room k torn : Int) : List (List (List UInt8)) := if mayR br L ws = 0 then addL n L (fun r => partL room k torn (r : Int) (sel (r : Int) ws)) else L
def comR (n : Nat) (L : List (List (List UInt8))) (br : Bool) (room : Int) (want : List (List UInt8)) : List (List (List UInt8)) := if comD br n room want = 0 then L.set room.toNat want else L
theorem Inv.may (h : Inv n l L br) (ws : List Wr) : mayD br (l.map List.length) ws = mayR br L ws := by
  unfold mayR
  cases br with
  | true => unfold mayD; rw [if_pos rfl, if_pos rfl]
  | false =>
    have hR := h.2 rfl
    congr 1
    refine List.ext_getElem (by rw [List.length_map, List.length_map, hR.1, hR.2.1]) (fun i h1 h2 => ?_)
    rw [List.length_map] at h1 h2
    have := (hR.2.2 i (by rw [← hR.1]; exact h1)).1
    simp only [List.getD_eq_getElem?_getD, List.getElem?_eq_getElem h1, List.getElem?_eq_getElem h2, Option.getD_some] at this
    rw [List.getElem_map, List.getElem_map, this]
variable {w W : World} {d g : Nat} {vs : List Value}
/-- What a step leaves. -/
def Next (w : World) (d g n : Nat) (vs : List Value) (W : World) (L' : List (List (List UInt8))) (br' : Bool) (W' : World) : Prop :=
  ∃ vs' l', Dk w W' d g n vs' l' br' ∧ Inv n l' L' br' ∧ Fr (dfoot d g n vs) W W' ∧ ∀ k, dfoot d g n vs' k → dfoot d g n vs k ∨ W.heap.size ≤ k
theorem write_inv (hD : Dk w W d g n vs l br) (hn : n ≤ 100) (hI : Inv n l L br) (A : Option Addr) (m c : Nat) (ws : List Wr) (hw : WsA W (dfoot d g n vs) A m c ws) (hm : m ≤ 20) (hx : ∀ e ∈ ws, e.x.length ≤ 10000) :
    Calls Try.prog 52 #[dP d, .slice A m c] W fun e W' => e = .returned (.int .i64 (mayR br L ws)) ∧ Next w d g n vs W (writeR n L ws br) br W' := by
  refine (write_any hD hn A m c ws hw hm hx hI.1.le).mono ?_
  rintro e W' ⟨rfl, vs', h1, h2, h3⟩
  rw [hI.may] at h1 ⊢
  refine ⟨rfl, vs', _, h1, ?_, h2, dfoot_step h3⟩
  unfold writeR
  by_cases hz : mayR br L ws = 0
  · rw [if_pos hz, if_pos hz]
    have hz2 := hz
    rw [← hI.may] at hz2
    exact ((hI.2 (mayD_zero hz2).1).write hz2).inv br
  · rw [if_neg hz, if_neg hz]; exact hI
theorem part_inv (hD : Dk w W d g n vs l br) (hn : n ≤ 100) (hI : Inv n l L br) (A : Option Addr) (m c : Nat) (ws : List Wr) (hw : WsA W (dfoot d g n vs) A m c ws) (hm : m ≤ 20) (hx : ∀ e ∈ ws, e.x.length ≤ 10000) (room k torn : Int) :
    Calls Try.prog 55 #[dP d, .slice A m c, .int .i64 room, .int .i64 k, .int .i64 torn] W fun e W' => e = .returned (.int .i64 (mayR br L ws)) ∧ Next w d g n vs W (partR n L ws br room k torn) (if mayR br L ws = 0 then true else br) W' := by
  refine (part_any hD hn A m c ws hw hm hx hI.1.le room k torn).mono ?_
  rintro e W' ⟨rfl, h⟩
  rw [hI.may] at h ⊢
  refine ⟨rfl, ?_⟩
  unfold partR
  by_cases hz : mayR br L ws = 0
  · rw [if_pos hz] at h
    rw [if_pos hz, if_pos hz]
    obtain ⟨vs', h1, h2, h3⟩ := h
    have hz2 := hz
    rw [← hI.may] at hz2
    exact ⟨vs', _, h1, ⟨(hI.2 (mayD_zero hz2).1).part room k torn hz2, fun h => by cases h⟩, h2, dfoot_step h3⟩
  · rw [if_neg hz] at h
    rw [if_neg hz, if_neg hz]
    obtain ⟨vs', h1, h2, h3⟩ := h
    exact ⟨vs', _, h1, hI, h2, dfoot_step h3⟩
theorem up_inv (hD : Dk w W d g n vs l br) (hn : n ≤ 100) (hI : Inv n l L br) :
    Calls Try.prog 57 #[dP d] W fun e W' => ∃ A1 c1, e = .returned (.slice A1 n c1) ∧ LLs (newer W) W' (.slice A1 n c1) L ∧ ∃ vs' l', Dk w W' d g n vs' l' false ∧ Inv n l' L false ∧ Fr (dfoot d g n vs) W W' ∧ ∀ k, dfoot d g n vs' k → dfoot d g n vs k := by
  refine (up_strong hD hn (fun i => Nat.le_trans (hI.1.le i) (by omega))).mono ?_
  rintro e W' ⟨v, rfl, h2, vs', h3, h4, h5⟩
  rw [hI.1.map_scan] at h2
  have h6 := h2
  obtain ⟨us, u1, u2, -, -⟩ := h6
  obtain ⟨A1, c1, hv, -, -⟩ := u2.shape
  rw [hI.1.2.1] at hv
  subst hv
  refine ⟨A1, c1, rfl, h2, vs', _, h3, hI.1.cut.inv false, h4, fun k hk => ?_⟩
  rcases hk with rfl | rfl | ⟨i, hi, hk⟩
  · exact .inl rfl
  · exact .inr (.inl rfl)
  · exact h5 i hi k hk
theorem com_inv (hD : Dk w W d g n vs l br) (hn : n ≤ 100) (hI : Inv n l L br) (A : Option Addr) (m c : Nat) (want : List (List UInt8)) (hw : Ls W (.slice A m c) want) (hm : want.length ≤ 20) (hx : ∀ x ∈ want, x.length ≤ 10000) (room : Int) :
    Calls Try.prog 58 #[dP d, .int .i64 room, .slice A m c] W fun e W' => e = .returned (.int .i64 (comD br n room want)) ∧ Next w d g n vs W (comR n L br room want) br W' := by
  refine (compact_any hD hn A m c want hw hm hx room).mono ?_
  rintro e W' ⟨rfl, vs', h1, h2, h3⟩
  refine ⟨rfl, vs', _, h1, ?_, h2, dfoot_step h3⟩
  unfold comR
  by_cases hz : comD br n room want = 0
  · rw [if_pos hz, if_pos hz]
    obtain ⟨q0, q1, q2, q3, q4⟩ := comD_zero hz
    exact ((hI.2 q0).anew room.toNat (by omega) want q3 q4).inv br
  · rw [if_neg hz, if_neg hz]; exact hI
theorem read_inv (hD : Dk w W d g n vs l br) (hn : n ≤ 100) (hI : Inv n l L br) (k : Nat) (hk : k < n) : Calls Try.prog 54 #[dP d, .int .i64 (k : Int)] W fun e W' => ∃ A1 n1 c1, e = .returned (.slice A1 n1 c1) ∧ LsF (dfoot d g n vs) W' (.slice A1 n1 c1) (L.getD k []) ∧ Below W.heap.size W W' := by
  refine (read_any hD k hk hn (Nat.le_trans (hI.1.le k) (by omega))).mono ?_
  rintro e W' ⟨v, rfl, h2, h3⟩
  rw [(hI.1.scan k hk).1] at h2
  have h4 : LsF (dfoot d g n vs) W' v (L.getD k []) := h2.far (fun j hj hd => by have := hD.foot_lt j hd; unfold newer at hj; omega)
  obtain ⟨A1, c1, hv, -, -⟩ := h4.ls.shape
  subst hv
  exact ⟨A1, _, c1, rfl, h4, h3⟩
theorem size_inv (hD : Dk w W d g n vs l false) (hn : n ≤ 100) (hI : Inv n l L false) (k : Nat) (hk : k < n) : Calls Try.prog 53 #[dP d, .int .i64 (k : Int)] W fun e W' => e = .returned (.int .i64 ((recs (L.getD k [])).length : Int)) ∧ W = W' := by
  have := size_any hD k hk hn
  rwa [((hI.2 rfl).2.2 k hk).1] at this
end
/-- few, of writes that came in. -/
theorem few_step {w W : World} {A : Option Addr} {m c : Nat} {ls : List Wr} (hI : WsI w A m c ls) (hB : Below w.heap.size w W) :
    Calls Try.prog 51 #[.slice A m c] W fun e W' => ∃ A1 n1 c1 A2 c2, e = .returned (.tuple #[.slice A1 n1 c1, .slice A2 n1 c2]) ∧ n1 = (fewL ls).length ∧ Below W.heap.size W W' ∧ (∀ F : Nat → Prop, (∀ k, F k → w.heap.size ≤ k) → (∀ k, F k → k < W.heap.size) → WsA W' F A1 n1 c1 (fewL ls)) ∧ WsO W' (.slice A1 n1 c1) (fewL ls) ∧ Own W' 118 2 (.slice A2 n1 c2) n1 (wsC (fewL ls)) ∧ (∀ k, rowOf (.slice A1 n1 c1) k → W.heap.size ≤ k) ∧ (∀ k, rowOf (.slice A2 n1 c2) k → W.heap.size ≤ k) := by
  refine (few_any A m c ls hI.1 (fun e he => ?_) hB).mono ?_
  · obtain ⟨h1, h2, h3, -, -⟩ := (hI.2 e he).sl_eq
    exact ⟨h2, h3⟩
  · rintro e W' ⟨v1, v2, h1, h2, h2r, h4, h4r, h3⟩
    obtain ⟨A1, c1, hv, -, -⟩ := WsO.shape h2
    obtain ⟨A2, c2, hv2, -, -⟩ := h4.shape
    subst hv hv2
    exact ⟨A1, _, c1, A2, c2, h1, rfl, h3, fun F hF hG => few_wsa hI (hB.trans (h3.mono hB.size)) hF hG h2 h2r, h2, h4, h2r, h4r⟩
theorem Own.takeA {w : World} {e : TypeId} {n c : Nat} {A : Option Addr} {xs : List Value} (h : Own w e 1 (.slice A n c) n xs) (m : Nat) (hm : m ≤ n) : Own w e 1 (.slice A m c) m (xs.take m) := by
  obtain ⟨h1, h2⟩ := h
  rcases h2 with ⟨e, h0⟩ | ⟨g', o', c', cur, e, hb, hc, hcm, hfit, hx⟩
  · injection e with e1 e2 e3
    subst e1 e3
    obtain rfl : m = 0 := by omega
    exact ⟨by simp, .inl ⟨rfl, rfl⟩⟩
  · injection e with e1 e2 e3
    subst e1 e3
    refine ⟨by rw [List.length_take]; omega, .inr ⟨g', o', c, cur, rfl, hb, by omega, hcm, hfit, fun j u hj => hx j u ?_⟩⟩
    rw [List.getElem?_take] at hj
    split at hj
    · exact hj
    · cases hj
theorem LsF.take {F : Nat → Prop} {w : World} {A : Option Addr} {n c : Nat} {l : List (List UInt8)} (h : LsF F w (.slice A n c) l) (hn : n = l.length) (m : Nat) (hm : m ≤ n) : LsF F w (.slice A m c) (l.take m) := by
  obtain ⟨us, h1, h2, h3, h4⟩ := h
  rw [← hn] at h2
  have hl : (l.take m).length = m := by rw [List.length_take]; omega
  refine ⟨us.take m, by rw [List.length_take, hl]; omega, by rw [hl]; exact Own.takeA h2 m hm, fun g hg => h3 g (by cases A <;> exact hg), fun i hi => ?_⟩
  rw [hl] at hi
  have e1 : (us.take m).getD i undef = us.getD i undef := by simp only [List.getD_eq_getElem?_getD]; rw [List.getElem?_take_of_lt hi]
  have e2 : (l.take m).getD i [] = l.getD i [] := by simp only [List.getD_eq_getElem?_getD]; rw [List.getElem?_take_of_lt hi]
  rw [e1, e2]; exact h4 i (by omega)
theorem Ls.app {w : World} {v : Value} {a b : List (List UInt8)} {us ub : List Value} (h1 : us.length = a.length) (h2 : ub.length = b.length) (ho : Own w 22 1 v (a.length + b.length) (us ++ ub)) (ha : ∀ i, i < a.length → Sl w (us.getD i undef) (a.getD i [])) (hb : ∀ i, i < b.length → Sl w (ub.getD i undef) (b.getD i [])) : Ls w v (a ++ b) := by
  refine ⟨us ++ ub, by simp [h1, h2], by rw [List.length_append]; exact ho, fun i hi => ?_⟩
  rw [List.length_append] at hi
  rcases Nat.lt_or_ge i a.length with h | h
  · have e1 : (us ++ ub).getD i undef = us.getD i undef := by simp only [List.getD_eq_getElem?_getD]; rw [List.getElem?_append_left (by omega)]
    have e2 : (a ++ b).getD i [] = a.getD i [] := by simp only [List.getD_eq_getElem?_getD]; rw [List.getElem?_append_left (by omega)]
    rw [e1, e2]; exact ha i h
  · have e1 : (us ++ ub).getD i undef = ub.getD (i - a.length) undef := by simp only [List.getD_eq_getElem?_getD]; rw [List.getElem?_append_right (by omega), h1]
    have e2 : (a ++ b).getD i [] = b.getD (i - a.length) [] := by simp only [List.getD_eq_getElem?_getD]; rw [List.getElem?_append_right (by omega)]
    rw [e1, e2]; exact hb _ (by omega)
theorem ls_one {w : World} {us : List Value} {l : List (List UInt8)} (h1 : us.length = l.length) (h : ∀ i, i < l.length → Sl w (us.getD i undef) (l.getD i [])) : ∀ u ∈ us, u.oneCell' = true := fun u hu => by
  obtain ⟨i, hi, rfl⟩ := List.getElem_of_mem hu
  obtain ⟨A, c, hv, -⟩ := h i (by omega)
  rw [show us.getD i undef = us[i] by simp [hi]] at hv
  rw [hv]; rfl
theorem mayR_x {n : Nat} {L : List (List (List UInt8))} (r : Nat) (hL : L.length = n) (hr : r < n) (A : Option Addr) (h : (recs (L.getD r [])).length ≤ 59000) : mayR false L [⟨(r : Int), A, 1, [120]⟩] = 0 := by
  unfold mayR mayD
  rw [if_neg (by simp), if_neg, if_neg, if_neg]
  · intro hh
    obtain ⟨k, hk, hk2⟩ := List.any_eq_true.1 hh
    have hkn := List.mem_range.1 hk
    rw [List.length_map] at hkn
    simp only [Bool.and_eq_true, decide_eq_true_eq, moreN, List.map_cons, List.map_nil, List.sum_cons, List.sum_nil] at hk2
    have hg : (L.map (fun R => (recs R).length)).getD k 0 = (recs (L.getD k [])).length := by simp [List.getD_eq_getElem?_getD, hkn]
    rw [hg] at hk2
    by_cases e : (r : Int) = (k : Int)
    · rw [if_pos e] at hk2
      have : r = k := by omega
      subst this
      simp only [List.length_cons, List.length_nil] at hk2
      omega
    · rw [if_neg e] at hk2; omega
  · simp [longW]
  · simp [badW]; omega
/-- Write of one short record. -/
theorem write_x {w W : World} {d g n : Nat} {vs : List Value} {l : List (List UInt8)} {L : List (List (List UInt8))} (hD : Dk w W d g n vs l false) (hn : n ≤ 100) (hI : Inv n l L false) (r : Nat) (hr : r < n) (h : (recs (L.getD r [])).length ≤ 59000) :
    Calls Try.prog 52 #[dP d, .slice (some ⟨W.heap.size + 1, 0, none⟩) 1 1] ((W.alloc (.cells #[.int .u8 120] 5 (1, 2))).alloc (.cells #[.int .i64 (r : Int), .slice (some ⟨W.heap.size, 0, none⟩) 1 1] 73)) fun e W' => e = .returned (.int .i64 0) ∧ Below w.heap.size w W' := by
  obtain ⟨W1, h1⟩ : ∃ W1, W1 = W.alloc (.cells #[.int .u8 120] 5 (1, 2)) := ⟨_, rfl⟩
  obtain ⟨W2, h2⟩ : ∃ W2, W2 = W1.alloc (.cells #[.int .i64 (r : Int), .slice (some ⟨W.heap.size, 0, none⟩) 1 1] 73) := ⟨_, rfl⟩
  rw [← h1, ← h2]
  have s1 : W1.heap.size = W.heap.size + 1 := by rw [h1]; simp
  have b1 : Below W.heap.size W W1 := by rw [h1]; exact (Below.refl _ _).alloc (Nat.le_refl _) _
  have b2 : Below W1.heap.size W1 W2 := by rw [h2]; exact (Below.refl _ _).alloc (Nat.le_refl _) _
  have y1 : Bytes W1 (some ⟨W.heap.size, 0, none⟩) [120] := by rw [h1]; exact bytes_marked [120] (1, 2)
  have hsrc : Src W2 2 (some ⟨W.heap.size + 1, 0, none⟩) 1 (wsC [⟨(r : Int), some ⟨W.heap.size, 0, none⟩, 1, [120]⟩]) := by
    refine ⟨rfl, fun _ => ⟨_, _, rfl, by rw [h2]; simp; omega, fun j u hj => ?_⟩⟩
    rw [Nat.zero_add, h2, ← s1]
    rw [(Blk.new W1 73 _).cell]
    simpa [wsC, wrC, Wr.u] using hj
  have hD2 := (hD.keep b1).keep b2
  have hfoot := hD.foot_lt
  have hP := write_inv hD2 hn hI (some ⟨W.heap.size + 1, 0, none⟩) 1 1 [⟨(r : Int), some ⟨W.heap.size, 0, none⟩, 1, [120]⟩]
    ⟨⟨rfl, by omega, by decide, (fun h => by cases h), hsrc⟩, (fun _ g o s h hf => by cases h; have := hfoot _ hf; omega), fun e he => by
      obtain rfl : e = _ := by simpa using he
      exact ⟨by simp, (by show 1 ≤ maxLen; decide), (fun h => by cases h), y1.keep b2, fun _ g o s h hf => by cases h; have := hfoot _ hf; omega⟩⟩ (by omega)
    (fun e he => by
      obtain rfl : e = _ := by simpa using he
      simp)
  rw [mayR_x r hI.1.2.1 hr _ h] at hP
  refine hP.mono ?_
  rintro e W' ⟨rfl, vs', l', h', -⟩
  exact ⟨rfl, h'.bel⟩
end Go.Proofs.Ytnlkjhhocehhaaa
