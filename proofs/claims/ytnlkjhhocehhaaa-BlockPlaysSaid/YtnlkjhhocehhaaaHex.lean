/- The contracts of the strings.Builder's writing of a byte, and of digest.Hex. -/
import Derived.Test.YtnlkjhhocehhaaaMem
import Derived.Test.YtnlkjhhocehhaaaRows
import Derived.Test.YtnlkjhhocehhaaaShelf
import Derived.Lib.Builder
import Derived.Lib.UnsafeStr
namespace Go.Proofs.Ytnlkjhhocehhaaa
set_option linter.unusedVariables false
open Go Go.RowKit Go.Proofs
theorem sizeB : (Try.prog.info? 106).map (·.size) = some 2 := by kernel_rfl
theorem infoB5 : (Try.prog.info? 5).map (fun i => (i.zero, i.size, i.bytes)) = some (some (.int .u8 0), 1, 1) := by kernel_rfl
set_option maxRecDepth 100000 in
theorem copyCheck_used (b : Nat) (w : World) (h0 : w.cell? ⟨b, 0, none⟩ = some (.pointer (some ⟨b, 0, none⟩))) :
    Calls Try.prog 92 #[.pointer (some ⟨b, 0, none⟩)] w fun e w' => e = .returned (.tuple #[]) ∧ w = w' := by
  obtain ⟨j, hj, _⟩ := Option.map_eq_some_iff.1 sizeB
  go_enter Try.func92, Try.ntmps92
  go_wp2
  rw [Lib.run_neq_ptr_same w _ Try.underlying104 hj]
  go_wp2
  go_end0
  exact ⟨rfl, rfl⟩
set_option maxRecDepth 100000 in
theorem copyCheck_fresh (b : Nat) (w : World) (h0 : w.cell? ⟨b, 0, none⟩ = some (.pointer none)) (hsh : w.shape? b = some (106, 2)) (hfz : w.frozen? ⟨b, 0, none⟩ = false) :
    Calls Try.prog 92 #[.pointer (some ⟨b, 0, none⟩)] w fun e w' => e = .returned (.tuple #[]) ∧ w.setCell ⟨b, 0, none⟩ (.pointer (some ⟨b, 0, none⟩)) = w' := by
  obtain ⟨j, hj, hjs⟩ := Option.map_eq_some_iff.1 sizeB
  go_enter Try.func92, Try.ntmps92
  go_wp2
  rw [Lib.run_to_unsafe w ⟨b, 0, none⟩ Try.underlying104 Try.underlying134 hj (by rw [hjs]; decide) hsh (Nat.zero_lt_succ 1)]
  simp only [Result.andThen]
  rw [Oper.upon_value]
  go_wp2
  rw [run_callFunc_extern Try.func101 (by kernel_rfl) (by kernel_rfl) (by kernel_rfl) (e := Extern.AbiNoEscape.same) (by kernel_rfl)]
  rw [Lib.run_noEscape]
  simp only [Result.andThen]
  rw [Oper.upon_value]
  go_wp2
  rw [Lib.run_from_unsafe w ⟨b, 0, none⟩ Try.underlying134 Try.underlying104 hj hsh (by kernel_rfl)]
  simp only [Result.andThen]
  rw [Oper.upon_value]
  go_wp2
  go_end0
  exact ⟨rfl, rfl⟩
theorem copyCheck_any (B b : Nat) (bs : List Value) (w : World) (h : Lib.IsBuilder 106 5 B b bs w) :
    Calls Try.prog 92 #[.pointer (some ⟨b, 0, none⟩)] w fun e w' => e = .returned (.tuple #[]) ∧ Lib.BuilderAt 106 5 B b (.pointer (some ⟨b, 0, none⟩)) bs w' ∧ Below B w w' := by
  rcases h with h | h
  · refine (copyCheck_fresh b w h.cell0 h.shape h.frozen0).mono ?_
    rintro e w' ⟨rfl, rfl⟩
    exact ⟨rfl, h.used _, (Below.refl B w).setCell (p := ⟨b, 0, none⟩) h.1 _⟩
  · refine (copyCheck_used b w h.cell0).mono ?_
    rintro e w' ⟨rfl, rfl⟩
    exact ⟨rfl, h, Below.refl B _⟩
set_option maxRecDepth 100000 in
set_option maxHeartbeats 1000000 in
theorem writeByte_any (B b : Nat) (bs : List Value) (c : Int) (w : World) (h : Lib.IsBuilder 106 5 B b bs w) (hlen : bs.length ≤ 1000000000) (hBw : B ≤ w.heap.size) :
    Calls Try.prog 76 #[.pointer (some ⟨b, 0, none⟩), .int .u8 c] w fun e w' => e = .returned .nilIface ∧ Lib.BuilderAt 106 5 B b (.pointer (some ⟨b, 0, none⟩)) (bs ++ [.int .u8 c]) w' ∧ Below B w w' := by
  obtain ⟨i0, hi, hz0, hz1, hz2⟩ := info_parts infoB5
  go_enter Try.func76, Try.ntmps76
  go_wp2_with (go_at_call 92; refine (copyCheck_any B b bs _ h).mono ?_)
  rintro e w1 ⟨rfl, h1, hb1⟩
  obtain ⟨hB, v, hbk, hown, hne⟩ := h1
  have hbk' : Blk w1 b 106 #[.pointer (some ⟨b, 0, none⟩), v] := hbk
  have c0 : w1.cell? ⟨b, 0, none⟩ = some (.pointer (some ⟨b, 0, none⟩)) := hbk'.cell 0
  have c1 : w1.cell? ⟨b, 1, none⟩ = some v := hbk'.cell 1
  have hlt := hbk'.lt
  go_wp2_with (at_builtin; refine wpList_append_own _ rfl _ _ 22 rfl B 5 i0 (.int .u8 0) 1 1 Try.underlying22 hi hz0 hz1 hz2 rfl (by decide) _ _ _ rfl (hown.alloc _) ⟨w1.heap.size, 0, none⟩ 1 1 [.int .u8 c] rfl rfl ?c1 ?c2 ?c3 ?c4 ?c5 ?_)
  case c1 =>
    intro j u hj
    match j, hj with
    | 0, hj => simp at hj; subst hj; simp [Addr.add]
  case c2 => intro u hu; simp at hu; subst hu; rfl
  case c3 => unfold maxLen; omega
  case c4 => omega
  case c5 => have := hb1.size; simp; omega
  intro v' w2 hown' hgrow _
  have hb2 : Blk w2 b 106 #[.pointer (some ⟨b, 0, none⟩), v] := (hgrow.block b (by simp; omega) (fun e => hne e.symm)).trans (hbk'.alloc _)
  have d0 : w2.cell? ⟨b, 0, none⟩ = some (.pointer (some ⟨b, 0, none⟩)) := hb2.cell 0
  have d1 : w2.cell? ⟨b, 1, none⟩ = some v := hb2.cell 1
  have f1 := hb2.frozen 1
  obtain ⟨g, cap, rfl⟩ : ∃ g cap, v' = .slice (some ⟨g, 0, none⟩) (bs.length + 1) cap := by
    rcases hown'.2 with ⟨_, h0⟩ | ⟨g, cap, cur, hv, _⟩
    · omega
    · exact ⟨g, cap, hv⟩
  go_wp2
  go_ret
  refine ⟨rfl, ?_, ?_⟩
  · exact Lib.BuilderAt.put (T := 106) (e := 5) hB hb2 (bs' := bs ++ [.int .u8 c]) (by simpa using hown') (by decide)
  · exact ((hb1.alloc (by have := hb1.size; omega) _).grown hgrow (by have := hb1.size; simp; omega) (fun k hk => (hown.lt k hk).1)).setCell (p := ⟨b, 1, none⟩) hB _
/-- The signs. -/
def signs : List UInt8 := [48, 49, 50, 51, 52, 53, 54, 55, 56, 57, 97, 98, 99, 100, 101, 102]
def signB : ByteArray := ⟨#[48, 49, 50, 51, 52, 53, 54, 55, 56, 57, 97, 98, 99, 100, 101, 102]⟩
def hi4 (b : UInt8) : UInt8 := signs.getD (b.toNat / 16) 0
def lo4 (b : UInt8) : UInt8 := signs.getD (b.toNat % 16) 0
def hexOf (l : List UInt8) : List UInt8 := l.flatMap fun b => [hi4 b, lo4 b]
theorem length_hexOf (l : List UInt8) : (hexOf l).length = 2 * l.length := by
  induction l with
  | nil => rfl
  | cons b l ih => simp [hexOf] at ih ⊢; omega
theorem hexOf_append (a b : List UInt8) : hexOf (a ++ b) = hexOf a ++ hexOf b := by simp [hexOf]
theorem and15 (b : UInt8) : bits .and .u8 (n8 b) 15 = n8 b % 16 := by
  unfold n8
  have : ∀ b : Fin 256, bits .and .u8 ((b.val : Nat) : Int) 15 = ((b.val : Nat) : Int) % 16 := by decide +kernel
  exact this ⟨b.toNat, u8_lt b⟩
theorem index_signs (m : Nat) (h : m < 16) (W : World) : (Instr.index 9 (.string { data := #[48, 49, 50, 51, 52, 53, 54, 55, 56, 57, 97, 98, 99, 100, 101, 102] }) (.int .u8 (m : Int))).run Try.prog W = .ok (.int .u8 (n8 (signs.getD m 0))) W := by
  match m, h with
  | 0, _ => (refine Eq.trans ?_ rfl; kernel_rfl)
  | 1, _ => (refine Eq.trans ?_ rfl; kernel_rfl)
  | 2, _ => (refine Eq.trans ?_ rfl; kernel_rfl)
  | 3, _ => (refine Eq.trans ?_ rfl; kernel_rfl)
  | 4, _ => (refine Eq.trans ?_ rfl; kernel_rfl)
  | 5, _ => (refine Eq.trans ?_ rfl; kernel_rfl)
  | 6, _ => (refine Eq.trans ?_ rfl; kernel_rfl)
  | 7, _ => (refine Eq.trans ?_ rfl; kernel_rfl)
  | 8, _ => (refine Eq.trans ?_ rfl; kernel_rfl)
  | 9, _ => (refine Eq.trans ?_ rfl; kernel_rfl)
  | 10, _ => (refine Eq.trans ?_ rfl; kernel_rfl)
  | 11, _ => (refine Eq.trans ?_ rfl; kernel_rfl)
  | 12, _ => (refine Eq.trans ?_ rfl; kernel_rfl)
  | 13, _ => (refine Eq.trans ?_ rfl; kernel_rfl)
  | 14, _ => (refine Eq.trans ?_ rfl; kernel_rfl)
  | 15, _ => (refine Eq.trans ?_ rfl; kernel_rfl)
  | m + 16, h => omega
theorem index_hi (b : UInt8) (W : World) : (Instr.index 9 (.string { data := #[48, 49, 50, 51, 52, 53, 54, 55, 56, 57, 97, 98, 99, 100, 101, 102] }) (.int .u8 (n8 b / 16))).run Try.prog W = .ok (.int .u8 (n8 (hi4 b))) W := by
  have h := index_signs (b.toNat / 16) (by have := u8_lt b; omega) W
  have e : ((b.toNat / 16 : Nat) : Int) = n8 b / 16 := by unfold n8; omega
  rw [e] at h; exact h
theorem index_lo (b : UInt8) (W : World) : (Instr.index 9 (.string { data := #[48, 49, 50, 51, 52, 53, 54, 55, 56, 57, 97, 98, 99, 100, 101, 102] }) (.int .u8 (n8 b % 16))).run Try.prog W = .ok (.int .u8 (n8 (lo4 b))) W := by
  have h := index_signs (b.toNat % 16) (by omega) W
  have e : ((b.toNat % 16 : Nat) : Int) = n8 b % 16 := by unfold n8; omega
  rw [e] at h; exact h
set_option maxRecDepth 100000 in
set_option maxHeartbeats 1000000 in
theorem hex_any (A : Option Addr) (n c : Nat) (l : List UInt8) (w : World) (hn : n = l.length) (hx : Bytes w A l) (hl : l.length ≤ 100000000) :
    Calls Try.prog 31 #[.slice A n c] w fun e w' => e = .returned (.string ⟨(hexOf l).toArray⟩) ∧ Below w.heap.size w w' := by
  subst hn
  go_enter Try.func31, Try.ntmps31
  go_wp2_with fail
  have hb0 : Lib.IsBuilder 106 5 w.heap.size w.heap.size [] (w.alloc (.cells #[.pointer none, .slice none 0 0] 106)) :=
    .inl ⟨Nat.le_refl _, .slice none 0 0, Blk.new _ _ _, World.ownsRow_nil _ _ _ _, by simp [Value.ownBlock]⟩
  go_loopw [8] (fun c8 wr => ∃ k : Nat, k ≤ l.length ∧ c8 = .int .i64 k ∧ Lib.IsBuilder 106 5 w.heap.size w.heap.size (Lib.byteCells (hexOf (l.take k))) wr ∧ Below w.heap.size w wr) (fun c8 _ => l.length - (intOf c8).toNat)
  case atStart => exact ⟨0, Nat.zero_le _, rfl, hb0, (Below.refl _ _).alloc (Nat.le_refl _) _⟩
  case round =>
    obtain ⟨k, hk, rfl, hB, hF⟩ := hrel
    by_cases hlt : k < l.length
    · obtain ⟨g, o, rfl, hg, hc⟩ := hx.at_ (by omega)
      have e1 : wr.cell? ⟨g, o + k, none⟩ = some (.int .u8 (n8 (l.getD k 0))) := (hF.cell (p := ⟨g, o + k, none⟩) hg).trans (hc k hlt)
      clear hc
      obtain ⟨b, hb⟩ : ∃ b, b = l.getD k 0 := ⟨_, rfl⟩
      rw [← hb] at e1
      have Hb := Lib.hid hb
      have hand := and15 b
      have hih := index_hi b
      have hil := index_lo b
      clear hb
      have hlen := length_hexOf (l.take k)
      rw [List.length_take] at hlen
      have hlen' : (hexOf (l.take k)).length ≤ 200000000 := by omega
      have HK := Lib.hid (writeByte_any w.heap.size w.heap.size _ (n8 (hi4 b)) wr hB (by rw [Lib.byteCells_length]; omega) hF.size)
      clear hlen
      go_wp2_with fail
      refine HK.out.mono ?_
      rintro e w1 ⟨rfl, hB1, hF1⟩
      have HK2 := Lib.hid (writeByte_any w.heap.size w.heap.size _ (n8 (lo4 b)) w1 (.inr hB1) (by rw [List.length_append, Lib.byteCells_length]; simp; omega) (hF.trans hF1).size)
      clear HK
      go_wp2_with fail
      refine HK2.out.mono ?_
      rintro e w2 ⟨rfl, hB2, hF2⟩
      clear HK2
      go_wp2_with fail
      go_roundw
      case rel =>
        refine ⟨k + 1, by omega, by go_num, .inr ?_, (hF.trans hF1).trans hF2⟩
        have e : Lib.byteCells (hexOf (l.take (k + 1))) = Lib.byteCells (hexOf (l.take k)) ++ [.int .u8 (n8 (hi4 b))] ++ [.int .u8 (n8 (lo4 b))] := by
          rw [List.take_succ_eq_append_getElem hlt, hexOf_append]
          have hbk : l[k] = b := by rw [Hb.out]; simp [hlt]
          rw [hbk]
          simp [hexOf, Lib.byteCells, n8]
        rw [e]
        exact hB2
      case measure => simp [intOf]; omega
    · obtain rfl : k = l.length := by omega
      rw [List.take_length] at hB
      go_wp2_with (go_at_call 77; refine (Try.Builder_String_any w.heap.size w.heap.size (hexOf l) wr hB hF.size).mono ?_; rintro e w3 ⟨rfl, hb3⟩)
      go_ret
      exact ⟨rfl, hF.trans hb3⟩
end Go.Proofs.Ytnlkjhhocehhaaa
