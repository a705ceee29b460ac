/- Write: all writes are put. -/
import Derived.Test.YtnlkjhhocehhaaaMay
namespace Go.Proofs.Ytnlkjhhocehhaaa
set_option linter.unusedVariables false
open Go Go.RowKit Go.Proofs Sha
/-- What a step leaves of a disk. -/
def DkTo (w : World) (d g n : Nat) (vs : List Value) (W : World) (l' : List (List UInt8)) (br' : Bool) (W' : World) : Prop :=
  ∃ vs', Dk w W' d g n vs' l' br' ∧ Fr (dfoot d g n vs) W W' ∧ ∀ i, i < n → ∀ k, rowOf (vs'.getD i undef) k → dfoot d g n vs k ∨ W.heap.size ≤ k
theorem DkTo.same {w W W' : World} {d g n : Nat} {vs : List Value} {l : List (List UInt8)} {br : Bool} (h : Dk w W d g n vs l br) (hb : Below W.heap.size W W') : DkTo w d g n vs W l br W' :=
  ⟨vs, h.keep hb, Fr.of_below hb _, fun i hi k hk => .inl (.inr (.inr ⟨i, hi, hk⟩))⟩
/-- A row of writes: none of its blocks is one of F's. -/
structure WsA (W : World) (F : Nat → Prop) (A : Option Addr) (m c : Nat) (ws : List Wr) : Prop where
  row : WsR W A m c ws
  far : 0 < m → ∀ g o s, A = some ⟨g, o, s⟩ → ¬ F g
  each : ∀ e ∈ ws, e.x.length ≤ e.c ∧ e.c ≤ maxLen ∧ (e.A = none → e.c = 0) ∧ Bytes W e.A e.x ∧ (0 < e.x.length → ∀ g o s, e.A = some ⟨g, o, s⟩ → ¬ F g)
theorem WsA.fr {W W' : World} {F : Nat → Prop} {A : Option Addr} {m c : Nat} {ws : List Wr} (h : WsA W F A m c ws) (hf : Fr F W W') : WsA W' F A m c ws := by
  obtain ⟨⟨h1, h2, h3, h4, h5⟩, hfar, heach⟩ := h
  refine ⟨⟨h1, h2, h3, h4, Src.fr h5 hf (fun g o hm e => hfar hm g o _ e)⟩, hfar, fun e he => ?_⟩
  obtain ⟨e1, e2, e3, e4, e5⟩ := heach e he
  exact ⟨e1, e2, e3, Src.fr e4 hf (fun g o hm ee => e5 hm g o _ ee), e5⟩
def putW (l : List (List UInt8)) (e : Wr) : List (List UInt8) := l.set e.room.toNat (l.getD e.room.toNat [] ++ recB e.x)
theorem putW_len (l : List (List UInt8)) (e : Wr) : (putW l e).length = l.length := by unfold putW; simp
theorem putW_get (l : List (List UInt8)) (e : Wr) (k : Nat) (hk : k < l.length) (he : 0 ≤ e.room) : ((putW l e).getD k []) = if e.room = (k : Int) then l.getD k [] ++ recB e.x else l.getD k [] := by
  unfold putW
  simp only [List.getD_eq_getElem?_getD, List.getElem?_set]
  by_cases h : e.room.toNat = k
  · rw [if_pos h, if_pos (by omega), if_pos (by omega), ← h]; rfl
  · rw [if_neg h, if_neg (by omega)]
theorem DkTo.put {w W0 W W' : World} {d g n : Nat} {vs vs1 : List Value} {l1 : List (List UInt8)} {br : Bool} {k : Nat} {y : List UInt8} (hk : k < n) (h : Dk w W d g n vs1 l1 br) (hF : Fr (dfoot d g n vs) W0 W) (hR : ∀ i, i < n → ∀ k, rowOf (vs1.getD i undef) k → dfoot d g n vs k ∨ W0.heap.size ≤ k)
    (hp : PutTo w d g n vs1 l1 br k y W W') : DkTo w d g n vs W0 (l1.set k (l1.getD k [] ++ y)) br W' := by
  obtain ⟨v', h1, h2, h3⟩ := hp
  have s := hF.size
  refine ⟨_, h1, hF.then h2 (fun j hj => ?_), fun i hi j hj => ?_⟩
  · rcases hj with rfl | hj
    · exact .inl (.inr (.inl rfl))
    · exact hR k hk j hj
  · by_cases e : i = k
    · subst e
      have : (vs1.set i v').getD i undef = v' := by simp [show i < vs1.length by rw [h.n1]; exact hi]
      rw [this] at hj
      rcases h3 j hj with hj | hj
      · exact hR i hi j hj
      · exact .inr (by omega)
    · have : (vs1.set k v').getD i undef = vs1.getD i undef := by simp only [List.getD_eq_getElem?_getD]; rw [List.getElem?_set_ne (fun h => e h.symm)]
      rw [this] at hj
      exact hR i hi j hj
theorem recB_all (x : List UInt8) (h : x.length ≤ 4000) : (recB x).take 4006 = recB x := List.take_of_length_le (by rw [length_recB]; omega)
theorem badW_room {n : Nat} {e : Wr} (h : badW n e = false) : ∃ k : Nat, e.room = (k : Int) ∧ k < n := by
  unfold badW at h
  simp only [Bool.or_eq_false_iff, decide_eq_false_iff_not] at h
  exact ⟨e.room.toNat, by omega, by omega⟩
theorem mayD_zero {br : Bool} {lens : List Nat} {ws : List Wr} (h : mayD br lens ws = 0) : br = false ∧ (∀ e ∈ ws, badW lens.length e = false ∧ e.x.length ≤ 4000) ∧ ∀ k, k < lens.length → moreN ws k = 0 ∨ lens.getD k 0 + moreN ws k ≤ 60000 := by
  unfold mayD at h
  cases br with
  | true => rw [if_pos rfl] at h; cases h
  | false =>
    rw [if_neg (by simp)] at h
    by_cases h1 : ws.any (badW lens.length) = true
    · rw [if_pos h1] at h; cases h
    · rw [if_neg h1] at h
      by_cases h2 : ws.any longW = true
      · rw [if_pos h2] at h; cases h
      · rw [if_neg h2] at h
        split at h
        · cases h
        · rename_i h3
          refine ⟨rfl, fun e he => ⟨?_, ?_⟩, fun k hk => ?_⟩
          · rw [Bool.eq_false_iff]; exact fun hh => h1 (List.any_eq_true.2 ⟨e, he, hh⟩)
          · have : ¬ longW e = true := fun hh => h2 (List.any_eq_true.2 ⟨e, he, hh⟩)
            unfold longW at this
            simp at this
            exact this
          · have : ¬ (decide (0 < moreN ws k) && decide (60000 < lens.getD k 0 + moreN ws k)) = true := fun hh => h3 (List.any_eq_true.2 ⟨k, List.mem_range.2 hk, hh⟩)
            simp only [Bool.and_eq_true, decide_eq_true_eq] at this
            omega
set_option maxRecDepth 100000 in
set_option maxHeartbeats 4000000 in
theorem write_any {w W : World} {d g n : Nat} {vs : List Value} {l : List (List UInt8)} {br : Bool} (h : Dk w W d g n vs l br) (hn : n ≤ 100) (A : Option Addr) (m c : Nat) (ws : List Wr) (hw : WsA W (dfoot d g n vs) A m c ws) (hm : m ≤ 20) (hx : ∀ e ∈ ws, e.x.length ≤ 10000) (hl : ∀ i, (l.getD i []).length ≤ 60000) :
    Calls Try.prog 52 #[dP d, .slice A m c] W fun e W' => e = .returned (.int .i64 (mayD br (l.map List.length) ws)) ∧ DkTo w d g n vs W (if mayD br (l.map List.length) ws = 0 then ws.foldl putW l else l) br W' := by
  have HMAY := Lib.hid (may_any h hn A m c ws hw.row hm hx (fun i => Nat.le_trans (hl i) (by omega)))
  have HD := Lib.hid h
  have HW := Lib.hid hw
  have HL := Lib.hid hl
  have hz := fun (hh : mayD br (l.map List.length) ws = 0) => mayD_zero hh
  have HZ := Lib.hid hz
  have hn2 := h.n2
  have HN2 := Lib.hid hn2
  obtain ⟨rr, hrr⟩ : ∃ rr, rr = mayD br (l.map List.length) ws := ⟨_, rfl⟩
  rw [← hrr] at HMAY ⊢ HZ
  clear h hw hl hz hn2 hrr
  by_cases h0 : rr = 0
  · subst h0
    rw [if_pos rfl]
    have hz := HZ.out rfl
    rw [List.length_map, HN2.out] at hz
    obtain ⟨hbr, hea, hro⟩ := hz
    have HEA := Lib.hid hea
    clear hea hro HZ hbr
    go_enter Try.func52, Try.ntmps52
    go_wp2_with (first
      | (go_at_call 81
         refine HMAY.out.mono ?_
         rintro e w2 ⟨rfl, hb2⟩)
      | fail)
    go_loopw [16] (fun c16 wr => ∃ (i : Nat) (vs1 : List Value), i ≤ m ∧ c16 = .int .i64 (i : Int) ∧ Dk w wr d g n vs1 ((ws.take i).foldl putW l) br ∧ Fr (dfoot d g n vs) W wr ∧ (∀ j, j < n → ∀ k, rowOf (vs1.getD j undef) k → dfoot d g n vs k ∨ W.heap.size ≤ k) ∧ ∀ k, (((ws.take i).foldl putW l).getD k []).length ≤ 60000 + i * 4006) (fun c16 _ => m - (intOf c16).toNat)
    case atStart =>
      obtain ⟨vs1, q1, q2, q3⟩ := DkTo.same HD.out hb2
      exact ⟨0, vs1, by omega, rfl, q1, q2, q3, fun k => by have := HL.out k; simpa using this⟩
    case round =>
      obtain ⟨i, vs1, hi, rfl, hD, hF, hR, hlen⟩ := hrel
      have HDD := Lib.hid hD
      have HFF := Lib.hid hF
      have HRR := Lib.hid hR
      have HLN := Lib.hid hlen
      clear hD hF hR hlen
      by_cases him : i < m
      · have hd : decide ((i : Int) < (m : Int)) = true := decide_eq_true (by omega)
        have hwa := HW.out.fr HFF.out
        obtain ⟨gw, ow, rfl, hgw, hrw⟩ := hwa.row.at_ i him
        have hmw : m = ws.length := HW.out.row.1
        have hts : ws.take (i + 1) = ws.take i ++ [ws.getD i default] := by
          rw [List.take_succ_eq_append_getElem (by omega)]; simp [show i < ws.length by omega]
        have hmem : ws.getD i default ∈ ws := by simp [show i < ws.length by omega]
        obtain ⟨e, he⟩ : ∃ e, e = ws.getD i default := ⟨_, rfl⟩
        rw [← he] at hrw hts hmem
        obtain ⟨hb, hx4⟩ := HEA.out e hmem
        obtain ⟨k, hk, hkn⟩ := badW_room hb
        obtain ⟨e1, e2, e3, e4, e5⟩ := hwa.each e hmem
        obtain ⟨rm, Ae, ce, xe⟩ := e
        simp only at hk e1 e2 e3 e4 hx4
        subst hk
        have HRW := Lib.hid hrw
        have HTS := Lib.hid hts
        have HB4 := Lib.hid e4
        have HC := Lib.hid (And.intro e1 (And.intro e2 e3))
        clear hrw hts he hmem hb e4 e5 hwa e1 e2 e3 hmw
        obtain ⟨wo, rfl⟩ : ∃ wo : World, wo = wr := ⟨_, rfl⟩
        go_wp2_with (first
          | (with_reducible refine wpList_load_mid rfl 73 (.tmp 18) rfl gw (ow + i * 2) (by with_unfolding_all rfl) (wrC ⟨(k : Int), Ae, ce, xe⟩) _ HRW.out Try.underlying73 rfl (info73 _) ?_)
          | (with_reducible refine wpList_alloc_run rfl 73 rfl (wrC default).toArray zero73 ?_)
          | (refine wpList_store_blk rfl 73 (.tmp 7) (.tmp 19) rfl wo.heap.size 73 (wrC default).toArray (wrC ⟨(k : Int), Ae, ce, xe⟩).toArray (by rfl) (by rfl) (Blk.new wo 73 _) rfl (info73 _) (one_wr _) ?_
             intro w3 hb3 hf3
             have hF3 : Fr nob wo w3 := ((Fr.refl nob wo).alloc _).then hf3 (fun i hi => Or.inr (by unfold one at hi; omega))
             have hD3 := HDD.out.keep hF3.below_nob
             have HB3 := Lib.hid hb3
             have hln := HLN.out k
             have HP := Lib.hid (put_any hD3 k hkn hn Ae ce xe 4006 hx4 HC.out.1 HC.out.2.1 (HB4.out.keep hF3.below_nob) HC.out.2.2 (by omega) (by omega))
             have HD3 := Lib.hid hD3
             have HF3 : Hid (Fr (dfoot d g n vs) W w3) := Lib.hid (HFF.out.trans (hF3.mono (fun _ _ h => h.elim)))
             clear hb3 hf3 hF3 hD3 hln
             simp only [Act.put, List.setIfInBounds_toArray, List.set_cons_zero, List.set_cons_succ])
          | (with_reducible refine wpList_load_blk rfl 73 (.tmp 7) rfl wo.heap.size 73 (wrC ⟨(k : Int), Ae, ce, xe⟩).toArray _ (by with_unfolding_all rfl) HB3.out Try.underlying73 rfl (info73 _) ?_
             simp only [Act.put, List.setIfInBounds_toArray, List.set_cons_zero, List.set_cons_succ])
          | (go_at_call 82
             refine HP.out.mono ?_
             rintro en w4 ⟨rfl, hpt⟩)
          | fail)
        go_roundw
        case rel =>
          obtain ⟨vs2, q1, q2, q3⟩ := DkTo.put hkn HD3.out HF3.out HRR.out hpt
          have hpw : ((ws.take (i + 1)).foldl putW l) = ((ws.take i).foldl putW l).set k (((ws.take i).foldl putW l).getD k [] ++ (recB xe).take 4006) := by
            rw [HTS.out, List.foldl_append, recB_all xe hx4]
            rfl
          refine ⟨i + 1, vs2, by omega, by go_num, by rw [hpw]; exact q1, q2, q3, fun j => ?_⟩
          rw [hpw]
          have h8 := HLN.out j
          have h9 := HLN.out k
          simp only [List.getD_eq_getElem?_getD, List.getElem?_set] at h8 h9 ⊢
          split
          · split
            · simp only [Option.getD_some, List.length_append, List.length_take, length_recB]; omega
            · simp
          · omega
        case measure => simp [intOf]; omega
      · obtain rfl : i = m := by omega
        have hd : decide ((i : Int) < (i : Int)) = false := decide_eq_false (by omega)
        have hmw : i = ws.length := HW.out.row.1
        have htk : ws.take i = ws := List.take_of_length_le (by omega)
        rw [htk] at HDD
        clear hmw htk
        go_wp2_with fail
        go_ret
        exact ⟨rfl, vs1, HDD.out, HFF.out, HRR.out⟩
  · rw [if_neg h0]
    have hne : (rr != 0) = true := by simpa using h0
    clear HZ h0
    go_enter Try.func52, Try.ntmps52
    go_wp2_with (first
      | (go_at_call 81
         refine HMAY.out.mono ?_
         rintro e w2 ⟨rfl, hb2⟩)
      | fail)
    go_ret
    exact ⟨rfl, DkTo.same HD.out hb2⟩
end Go.Proofs.Ytnlkjhhocehhaaa
