/- The contracts of the reference's start, keys and round. -/
import Derived.Test.YtnlkjhhocehhaaaRound
import Derived.Test.YtnlkjhhocehhaaaTurn
namespace Go.Proofs.Ytnlkjhhocehhaaa
set_option linter.unusedVariables false
open Go Go.RowKit Go.Proofs Sha
theorem rstart_any (w : World) :
    Calls Try.prog 68 #[] w fun e w' => e = .returned (.agg (stCells init)) ∧ Below w.heap.size w w' := by
  go_enter Try.func68, Try.ntmps68
  go_wp2
  exact bodyPost_ret (v := .agg (stCells init)) (by
    refine results_cell_row (cs := stCells init) rfl _ _ w.heap.size 94 (0, 0) _ rfl (heap_alloc_new w _) Try.underlying94 rfl (by kernel_rfl)) rfl
    ⟨rfl, (Below.refl _ _).alloc (Nat.le_refl _) _⟩
set_option maxRecDepth 100000 in
theorem rkeys_any (w : World) :
    Calls Try.prog 69 #[] w fun e w' => e = .returned keyV ∧ Below w.heap.size w w' := by
  go_enter Try.func69, Try.ntmps69
  go_wp2_with (first
    | (with_reducible refine wpList_alloc_run rfl 96 rfl zero64 alloc96 ?_)
    | (with_reducible refine wpList_build_run rfl 96 _ rfl keyV (by kernel_rfl) ?_)
    | (with_reducible refine wpList_store_blk rfl 96 (.tmp 0) (.tmp 1) rfl w.heap.size 96 zero64 keyCells rfl rfl (Blk.new w 96 zero64) (by decide +kernel) info96 key_one ?_; intro w1 hb1 hf1))
  exact bodyPost_ret (v := keyV) (by
    refine results_cell_row (cs := keyCells) rfl _ _ w.heap.size 96 (0, 0) _ rfl hb1 Try.underlying96 rfl info96) rfl
    ⟨rfl, ((Below.refl _ _).alloc (Nat.le_refl _) _).trans (hf1.below (by simp) (fun k hk => by cases hk; exact Nat.le_refl _))⟩
/-- A new variable that holds a value. -/
theorem wpList_box_blk {P : Program} {ops : Array Oper} {rest : List Oper} {o : Oper} {a : Act} {w : World} {Q : Exit → Act → World → Prop} (hg : o.guard = none) (t : TypeId) (x : Operand) (ho : o.op = .box t x)
    (cells : Array Value) (hx : (a.eval x).cells = cells) (h : wpList P ops Q rest (a.put o.dst (.pointer (some ⟨w.heap.size, 0, none⟩))) (w.alloc (.cells cells t))) : wpList P ops Q (o :: rest) a w := by
  subst hx
  refine wpList_plain hg fun K hK => ?_
  unfold Oper.wp execOp
  simp only [ho, Sem.run_bind, Instr.box, newVar, newRow, run_newObj_alloc, Sem.run_pure, Result.andThen_ok]
  exact hK _ _ h
def zero8 : Array Value := stCells St.zero
theorem alloc94 (W : World) : (Instr.alloc 94 true (.tuple #[])).run Try.prog W = .ok (.pointer (some ⟨W.heap.size, 0, none⟩)) (W.alloc (.cells zero8 94)) := by kernel_rfl
theorem one_st (s : St) : (stCells s).all (·.oneCell') = true := by simp [stCells, Value.oneCell']
theorem info94 (s : St) : (Try.prog.info? 94).map (·.size) = some (stCells s).size := by
  rw [show (stCells s).size = 8 from rfl]; kernel_rfl
/-- A word of four bytes, byte after byte. -/
def accW (b : List UInt8) (i : Nat) : Nat → UInt32
  | 0 => 0
  | j + 1 => shl (accW b i j) 8 + (b.getD (4 * i + j) 0).toUInt32
theorem shl_nat (v s : Nat) (h : v < 256) (hs : s ≤ 24) : v * 2 ^ s % 4294967296 = v <<< s := by
  rw [Nat.shiftLeft_eq]
  refine Nat.mod_eq_of_lt (Nat.lt_of_lt_of_le (Nat.mul_lt_mul_of_pos_right h (Nat.two_pow_pos s)) ?_)
  exact Nat.mul_le_mul_left 256 (Nat.pow_le_pow_right (n := 2) (by omega) hs)
set_option maxRecDepth 100000 in
theorem word_acc (x y z t : UInt8) : shl (shl (shl (shl 0 8 + x.toUInt32) 8 + y.toUInt32) 8 + z.toUInt32) 8 + t.toUInt32 = shl x.toUInt32 24 ||| shl y.toUInt32 16 ||| shl z.toUInt32 8 ||| t.toUInt32 := by
  have hx := x.toNat_lt
  have hy := y.toNat_lt
  have hz := z.toNat_lt
  have ht := t.toNat_lt
  have hs : ∀ (u : UInt32) (s : Nat), (shl u s).toNat = u.toNat * 2 ^ s % 4294967296 := fun u s => by unfold shl; rw [toNat_ofNat _ (Nat.mod_lt _ (by omega))]
  apply UInt32.toNat_inj.1
  simp only [UInt32.toNat_add, UInt32.toNat_or, hs, UInt8.toNat_toUInt32]
  have e3 := shl_nat x.toNat 24 hx (by omega)
  have e2 := shl_nat y.toNat 16 hy (by omega)
  have e1 := shl_nat z.toNat 8 hz (by omega)
  rw [e3, e2, e1, Nat.or_assoc, Nat.or_assoc, ← Nat.shiftLeft_add_eq_or_of_lt (show t.toNat < 2 ^ 8 by omega),
    ← Nat.shiftLeft_add_eq_or_of_lt (show z.toNat <<< 8 + t.toNat < 2 ^ 16 by rw [Nat.shiftLeft_eq]; omega),
    ← Nat.shiftLeft_add_eq_or_of_lt (show y.toNat <<< 16 + (z.toNat <<< 8 + t.toNat) < 2 ^ 24 by simp only [Nat.shiftLeft_eq]; omega)]
  simp only [Nat.shiftLeft_eq]
  have : (0 : UInt32).toNat = 0 := rfl
  rw [this]
  omega
theorem accW_word (b : List UInt8) (i : Nat) : accW b i 4 = word b i := by
  simp only [accW, word]
  exact word_acc _ _ _ _
theorem u32_div (x : UInt32) (s : Nat) (m : Int) (hm : m = 2 ^ s) : (n32 x).tdiv m = n32 (shr x s) := by
  rw [hm, Int.tdiv_eq_ediv_of_nonneg (n32_bd x).1]; exact shr_val x s
theorem u32_div8 (x : UInt32) : (n32 x).tdiv 8 = n32 (shr x 3) := u32_div x 3 8 rfl
theorem u32_div1024 (x : UInt32) : (n32 x).tdiv 1024 = n32 (shr x 10) := u32_div x 10 1024 rfl
theorem u32_div256 (x : UInt32) : (n32 x).tdiv 256 = n32 (shr x 8) := u32_div x 8 256 rfl
theorem n32_mod (x : UInt32) : n32 x % 4294967296 = n32 x := by have := n32_bd x; omega
theorem u32_sub_not (x : UInt32) : (4294967295 - n32 x) % 4294967296 = n32 (~~~x) := by
  unfold n32; rw [UInt32.toNat_not]; have := u32_lt x; have : UInt32.size = 4294967296 := rfl; omega
theorem u32_sub_not' (x : UInt32) : IntKind.u32.wrap (4294967295 - n32 x) = n32 (~~~x) := by rw [wrap_u32]; exact u32_sub_not x
attribute [go_sem] u32_div8 u32_div1024 u32_div256 n32_mod u32_sub_not u32_sub_not'
theorem turn_z (x : UInt32) (z : Int) (n : Nat) (hz : z = n) (h1 : 1 ≤ n) (h2 : n ≤ 31) (w : World) :
    Calls Try.prog 88 #[.int .u32 (n32 x), .int .i64 z] w fun e w' => e = .returned (.int .u32 (n32 (rotl x (32 - n)))) ∧ w = w' := by
  subst hz; exact turn_any x n h1 h2 w
theorem fill_mid (b : List UInt8) (i : Nat) (h : i < 64) : (fillW b i).set i 0 = fillW b i := by
  unfold fillW
  rw [List.set_append_right _ _ (by simp)]
  congr 1
  simp only [List.length_map, List.length_range, Nat.sub_self]
  rw [show 64 - i = (64 - (i + 1)) + 1 by omega, List.replicate_succ, List.set_cons_zero]
/-- What stands in memory in the rounds. -/
structure RB (w W : World) (p q : Nat) (s S : St) (L : List UInt32) : Prop where
  r7 : Blk W (p + 1 + 1 + 1) 96 (wCells L)
  r3 : Blk W p 94 (stCells s)
  r4 : Blk W (p + 1) 96 keyCells
  r6 : Blk W (p + 1 + 1) 94 zero8
  rv : Blk W q 94 (stCells S)
  rF : Fr nob w W
theorem RB.keep {w W W' : World} {p q : Nat} {s S : St} {L : List UInt32} (h : RB w W p q s S L) (hb : Below W.heap.size W W') : RB w W' p q s S L :=
  ⟨h.r7.below hb h.r7.lt, h.r3.below hb h.r3.lt, h.r4.below hb h.r4.lt, h.r6.below hb h.r6.lt, h.rv.below hb h.rv.lt, h.rF.then (Fr.of_below hb nob) (fun _ h => h.elim)⟩
theorem RB.cells {w W : World} {p q : Nat} {s S : St} {L : List UInt32} (h : RB w W p q s S L) : q < W.heap.size ∧
    W.cell? ⟨q, 0, none⟩ = some (.int .u32 (n32 S.a)) ∧ W.cell? ⟨q, 1, none⟩ = some (.int .u32 (n32 S.b)) ∧ W.cell? ⟨q, 2, none⟩ = some (.int .u32 (n32 S.c)) ∧ W.cell? ⟨q, 3, none⟩ = some (.int .u32 (n32 S.d)) ∧
    W.cell? ⟨q, 4, none⟩ = some (.int .u32 (n32 S.e)) ∧ W.cell? ⟨q, 5, none⟩ = some (.int .u32 (n32 S.f)) ∧ W.cell? ⟨q, 6, none⟩ = some (.int .u32 (n32 S.g)) ∧ W.cell? ⟨q, 7, none⟩ = some (.int .u32 (n32 S.h)) :=
  ⟨h.rv.lt, h.rv.cell 0, h.rv.cell 1, h.rv.cell 2, h.rv.cell 3, h.rv.cell 4, h.rv.cell 5, h.rv.cell 6, h.rv.cell 7⟩
theorem RB.key {w W : World} {p q : Nat} {s S : St} {L : List UInt32} (h : RB w W p q s S L) (i : Nat) (hi : i < 64) : p + 1 < W.heap.size ∧ W.cell? ⟨p + 1, i, none⟩ = some (.int .u32 (n32 (K.getD i 0))) := by
  refine ⟨h.r4.lt, ?_⟩
  rw [h.r4.cell]
  have : i < K.length := hi
  simp [keyCells, v32, List.getElem?_eq_getElem this]
theorem RB.word {w W : World} {p q : Nat} {s S : St} {L : List UInt32} (h : RB w W p q s S L) (hL : L.length = 64) (i : Nat) (hi : i < 64) : p + 1 + 1 + 1 < W.heap.size ∧ W.cell? ⟨p + 1 + 1 + 1, i, none⟩ = some (.int .u32 (n32 (L.getD i 0))) := by
  refine ⟨h.r7.lt, ?_⟩
  rw [h.r7.cell]
  simp [wCells, v32, List.getElem?_eq_getElem (show i < L.length by omega)]
set_option maxRecDepth 100000 in
set_option maxHeartbeats 4000000 in
theorem rround_any (s : St) (b : List UInt8) (bg bo c : Nat) (w : World) (hl : b.length = 64) (hbl : bg < w.heap.size)
    (hb : ∀ j, j < 64 → w.cell? ⟨bg, bo + j, none⟩ = some (.int .u8 (n8 (b.getD j 0)))) :
    Calls Try.prog 71 #[.agg (stCells s), keyV, .slice (some ⟨bg, bo, none⟩) 64 c] w fun e w' => e = .returned (.agg (stCells (compress s b))) ∧ Below w.heap.size w w' := by
  go_enter Try.func71, Try.ntmps71
  go_wp2_with (first
    | (with_reducible refine wpList_box_blk rfl 94 (.tmp 0) rfl (stCells s) rfl ?_)
    | (with_reducible refine wpList_box_blk rfl 96 (.tmp 1) rfl keyCells rfl ?_)
    | (with_reducible refine wpList_alloc_run rfl 94 rfl zero8 alloc94 ?_)
    | (with_reducible refine wpList_alloc_run rfl 96 rfl zero64 alloc96 ?_)
    | fail)
  obtain ⟨p, hp⟩ : ∃ p, p = w.heap.size := ⟨_, rfl⟩
  have hN : ∀ o1 o2 o3 o4 : Obj, ((((w.alloc o1).alloc o2).alloc o3).alloc o4).heap.size = p + 4 := fun o1 o2 o3 o4 => by rw [hp]; simp
  have h3 : Blk ((((w.alloc (.cells (stCells s) 94)).alloc (.cells keyCells 96)).alloc (.cells zero8 94)).alloc (.cells zero64 96)) p 94 (stCells s) := by rw [hp]; exact (((Blk.new w 94 _).alloc _).alloc _).alloc _
  have h4 : Blk ((((w.alloc (.cells (stCells s) 94)).alloc (.cells keyCells 96)).alloc (.cells zero8 94)).alloc (.cells zero64 96)) (p + 1) 96 keyCells := by rw [hp]; simpa using ((Blk.new (w.alloc (.cells (stCells s) 94)) 96 keyCells).alloc (.cells zero8 94)).alloc (.cells zero64 96)
  have h6 : Blk ((((w.alloc (.cells (stCells s) 94)).alloc (.cells keyCells 96)).alloc (.cells zero8 94)).alloc (.cells zero64 96)) (p + 1 + 1) 94 zero8 := by rw [hp]; simpa using (Blk.new ((w.alloc (.cells (stCells s) 94)).alloc (.cells keyCells 96)) 94 zero8).alloc (.cells zero64 96)
  have h7 : Blk ((((w.alloc (.cells (stCells s) 94)).alloc (.cells keyCells 96)).alloc (.cells zero8 94)).alloc (.cells zero64 96)) (p + 1 + 1 + 1) 96 zero64 := by rw [hp]; simpa using Blk.new (((w.alloc (.cells (stCells s) 94)).alloc (.cells keyCells 96)).alloc (.cells zero8 94)) 96 zero64
  have hF : Fr nob w ((((w.alloc (.cells (stCells s) 94)).alloc (.cells keyCells 96)).alloc (.cells zero8 94)).alloc (.cells zero64 96)) := ((((Fr.refl nob w).alloc _).alloc _).alloc _).alloc _
  rw [← hp]
  obtain ⟨w1, hw1⟩ : ∃ w1, w1 = ((((w.alloc (.cells (stCells s) 94)).alloc (.cells keyCells 96)).alloc (.cells zero8 94)).alloc (.cells zero64 96)) := ⟨_, rfl⟩
  rw [← hw1] at h3 h4 h6 h7 hF ⊢
  have HP := Lib.hid hp
  clear hw1 hN hp
  go_loopw [8, 9] (fun c8 c9 wr => ∃ i : Nat, i ≤ 16 ∧ c8 = .int .i64 i ∧ Blk wr (p + 1 + 1 + 1) 96 (wCells (fillW b i)) ∧ Blk wr p 94 (stCells s) ∧ Blk wr (p + 1) 96 keyCells ∧ Blk wr (p + 1 + 1) 94 zero8 ∧ Fr nob w wr) (fun c8 _ _ => 16 - (intOf c8).toNat)
  case atStart => exact ⟨0, by omega, rfl, h7, h3, h4, h6, hF⟩
  case round =>
    obtain ⟨i, hi, rfl, q7, q3, q4, q6, qF⟩ := hrel
    by_cases hlt : i < 16
    · obtain ⟨wo, rfl⟩ : ∃ wo : World, wo = wr := ⟨_, rfl⟩
      go_wp2_with fail
      go_loopw [9] (fun c9 wr => ∃ j : Nat, j ≤ 4 ∧ c9 = .int .i64 j ∧ Blk wr (p + 1 + 1 + 1) 96 (wCells ((fillW b i).set i (accW b i j))) ∧ Blk wr p 94 (stCells s) ∧ Blk wr (p + 1) 96 keyCells ∧ Blk wr (p + 1 + 1) 94 zero8 ∧ Fr nob w wr) (fun c9 _ => 4 - (intOf c9).toNat)
      case atStart => exact ⟨0, by omega, rfl, by rw [show accW b i 0 = 0 from rfl, fill_mid b i (by omega)]; exact q7, q3, q4, q6, qF⟩
      case round =>
        obtain ⟨j, hj, rfl, r7, r3, r4, r6, rF⟩ := hrel
        by_cases hlt2 : j < 4
        · have hll : ((fillW b i).set i (accW b i j)).length = 64 := by rw [List.length_set]; exact length_fillW _ _ (by omega)
          have e1 : wr.cell? ⟨p + 1 + 1 + 1, i, none⟩ = some (.int .u32 (n32 (accW b i j))) := by
            rw [r7.cell]; simp [wCells, v32, List.getElem?_set, show i < 64 by omega, length_fillW b i (by omega)]
          have e2 : wr.cell? ⟨bg, bo + (4 * i + j), none⟩ = some (.int .u8 (n8 (b.getD (4 * i + j) 0))) := (rF.cell hbl id).trans (hb _ (by omega))
          have d1 := r7.frozen i
          have l7 := r7.lt
          have hbw : bg < wr.heap.size := Nat.lt_of_lt_of_le hbl rF.size
          obtain ⟨x, hx⟩ : ∃ x, x = accW b i j := ⟨_, rfl⟩
          obtain ⟨c, hc⟩ : ∃ c, c = b.getD (4 * i + j) 0 := ⟨_, rfl⟩
          rw [← hx] at e1
          rw [← hc] at e2
          have HX := Lib.hid hx
          have HC := Lib.hid hc
          clear hx hc
          have hz1 : (0 : Int) ≤ 4 * (i : Int) + (j : Int) := by omega
          have hz2 : 4 * (i : Int) + (j : Int) < 64 := by omega
          have hz3 : (4 * (i : Int) + (j : Int)).toNat = 4 * i + j := by omega
          go_wp2_with fail
          refine wp_region_pre 15 0 (by kernel_rfl) (by kernel_rfl) rfl ?_
          simp only [List.take_succ_cons, List.take_zero, List.drop_succ_cons, List.drop_zero]
          repeat (go_big_quiet_step (fail))
          refine wpQuiet_nil ?_
          intro w2 hb2
          have k7 := r7.below hb2 l7
          have c1 : w2.cell? ⟨p + 1 + 1 + 1, i, none⟩ = some (.int .u32 (n32 x)) := (hb2.cell (p := ⟨p + 1 + 1 + 1, i, none⟩) l7).trans e1
          have c2 := k7.frozen i
          go_wp2_with fail
          go_roundw
          case rel =>
            refine ⟨j + 1, by omega, by go_num, ?_, (r3.below hb2 r3.lt).far' (by omega) _, (r4.below hb2 r4.lt).far' (by omega) _, (r6.below hb2 r6.lt).far' (by omega) _, ?_⟩
            · have h := k7.set_ i (v32 (accW b i (j + 1)))
              simp only [wCells, List.setIfInBounds_toArray, ← List.map_set, List.set_set] at h
              have e : accW b i (j + 1) = shl x 8 + c.toUInt32 := by rw [accW, ← HX.out, ← HC.out]
              rw [e] at h ⊢
              exact h
            · exact (rF.then (Fr.of_below hb2 nob) (fun _ h => h.elim)).setCell (.inr (show w.heap.size ≤ p + 1 + 1 + 1 by have := HP.out; omega)) _
          case measure => simp [intOf]; omega
        · obtain rfl : j = 4 := by omega
          rw [accW_word, fillW_succ b i (by omega)] at r7
          go_wp2_with fail
          go_roundw
          case rel => exact ⟨i + 1, by omega, by go_num, r7, r3, r4, r6, rF⟩
          case measure => simp [intOf]; omega
    · obtain rfl : i = 16 := by omega
      obtain ⟨wo, rfl⟩ : ∃ wo : World, wo = wr := ⟨_, rfl⟩
      clear h3 h4 h6 h7 hF
      go_wp2_with fail
      go_loopw [10, 11, 12] (fun c10 _ _ wr => ∃ i : Nat, 16 ≤ i ∧ i ≤ 64 ∧ c10 = .int .i64 i ∧ Blk wr (p + 1 + 1 + 1) 96 (wCells (schedN (fillW b 16) (i - 16))) ∧ Blk wr p 94 (stCells s) ∧ Blk wr (p + 1) 96 keyCells ∧ Blk wr (p + 1 + 1) 94 zero8 ∧ Fr nob w wr) (fun c10 _ _ _ => 64 - (intOf c10).toNat)
      case atStart => exact ⟨16, by omega, by omega, rfl, q7, q3, q4, q6, qF⟩
      case round =>
        obtain ⟨i, hi1, hi2, rfl, r7, r3, r4, r6, rF⟩ := hrel
        by_cases hlt : i < 64
        · obtain ⟨L, hL, HL⟩ : ∃ L : List UInt32, L.length = 64 ∧ Hid (L = schedN (fillW b 16) (i - 16)) := ⟨_, length_schedN _ (length_fillW _ _ (by omega)) _, rfl⟩
          rw [← HL.out] at r7
          have HLl := Lib.hid hL
          clear hL
          have cell : ∀ (W : World) (l : List UInt32), Blk W (p + 1 + 1 + 1) 96 (wCells l) → l.length = 64 → ∀ j, j < 64 → W.cell? ⟨p + 1 + 1 + 1, j, none⟩ = some (.int .u32 (n32 (l.getD j 0))) := fun W l h hl j hj => by
            rw [h.cell]; simp [wCells, v32, List.getElem?_eq_getElem (show j < l.length by omega)]
          obtain ⟨x15, hx15⟩ : ∃ x, x = L.getD (i - 15) 0 := ⟨_, rfl⟩
          obtain ⟨x16, hx16⟩ : ∃ x, x = L.getD (i - 16) 0 := ⟨_, rfl⟩
          obtain ⟨x7, hx7⟩ : ∃ x, x = L.getD (i - 7) 0 := ⟨_, rfl⟩
          obtain ⟨x2, hx2⟩ : ∃ x, x = L.getD (i - 2) 0 := ⟨_, rfl⟩
          have c15 := cell _ _ r7 HLl.out (i - 15) (by omega)
          have c2 := cell _ _ r7 HLl.out (i - 2) (by omega)
          rw [← hx15] at c15
          rw [← hx2] at c2
          have HX15 := Lib.hid hx15
          have HX16 := Lib.hid hx16
          have HX7 := Lib.hid hx7
          have HX2 := Lib.hid hx2
          have CELL := Lib.hid cell
          clear hx15 hx16 hx7 hx2 cell
          have l7 := r7.lt
          have TA := Lib.hid (fun W => turn_z x15 7 7 rfl (by omega) (by omega) W)
          have TB := Lib.hid (fun W => turn_z x15 18 18 rfl (by omega) (by omega) W)
          go_wp2_with fail
          refine wp_region_quiet_below (by kernel_rfl) (by kernel_rfl) ?_
          repeat (go_big_quiet_step (first
            | (go_at_call 88; with_reducible exact regrown_same (TA.out _))
            | (go_at_call 88; with_reducible exact regrown_same (TB.out _))))
          refine wpQuiet_nil ?_
          intro w2 hw2
          have hb2 := Re.below hw2
          clear hw2
          have k7 := r7.below hb2 l7
          have k3 := r3.below hb2 r3.lt
          have k4 := r4.below hb2 r4.lt
          have k6 := r6.below hb2 r6.lt
          have kF : Fr nob w w2 := rF.then (Fr.of_below hb2 nob) (fun _ h => h.elim)
          clear r7 r3 r4 r6 rF c15 c2 l7 hb2
          have l7 := k7.lt
          have c2 := CELL.out _ _ k7 HLl.out (i - 2) (by omega)
          rw [← HX2.out] at c2
          obtain ⟨X, hX⟩ : ∃ X, X = rotl x15 25 ^^^ rotl x15 14 ^^^ shr x15 3 := ⟨_, rfl⟩
          rw [← hX]
          have HX := Lib.hid hX
          clear hX TA TB
          have TA := Lib.hid (fun W => turn_z x2 17 17 rfl (by omega) (by omega) W)
          have TB := Lib.hid (fun W => turn_z x2 19 19 rfl (by omega) (by omega) W)
          obtain ⟨wb, rfl⟩ : ∃ wb : World, wb = w2 := ⟨_, rfl⟩
          go_wp2_with fail
          refine wp_region_quiet_below (by kernel_rfl) (by kernel_rfl) ?_
          repeat (go_big_quiet_step (first
            | (go_at_call 88; with_reducible exact regrown_same (TA.out _))
            | (go_at_call 88; with_reducible exact regrown_same (TB.out _))))
          refine wpQuiet_nil ?_
          intro w3 hw3
          have hb3 := Re.below hw3
          clear hw3
          obtain ⟨Y, hY⟩ : ∃ Y, Y = rotl x2 15 ^^^ rotl x2 13 ^^^ shr x2 10 := ⟨_, rfl⟩
          rw [← hY]
          have HY := Lib.hid hY
          clear hY TA TB c2
          have m7 := k7.below hb3 l7
          have m3 := k3.below hb3 k3.lt
          have m4 := k4.below hb3 k4.lt
          have m6 := k6.below hb3 k6.lt
          have mF : Fr nob w w3 := kF.then (Fr.of_below hb3 nob) (fun _ h => h.elim)
          clear k7 k3 k4 k6 kF l7 hb3
          have l7 := m7.lt
          have c16 := CELL.out _ _ m7 HLl.out (i - 16) (by omega)
          have c7 := CELL.out _ _ m7 HLl.out (i - 7) (by omega)
          have ci := CELL.out _ _ m7 HLl.out i hlt
          rw [← HX16.out] at c16
          rw [← HX7.out] at c7
          obtain ⟨wc, rfl⟩ : ∃ wc : World, wc = w3 := ⟨_, rfl⟩
          go_wp2_with fail
          refine wp_region_pre 15 0 (by kernel_rfl) (by kernel_rfl) rfl ?_
          simp only [List.take_succ_cons, List.take_zero, List.drop_succ_cons, List.drop_zero]
          repeat (go_big_quiet_step (fail))
          refine wpQuiet_nil ?_
          intro w4 hb4
          have n7 := m7.below hb4 l7
          have d1 := CELL.out _ _ n7 HLl.out i hlt
          have d2 := n7.frozen i
          go_wp2_with fail
          go_roundw
          case rel =>
            refine ⟨i + 1, by omega, by omega, by go_num, ?_, (m3.below hb4 m3.lt).far' (by omega) _, (m4.below hb4 m4.lt).far' (by omega) _, (m6.below hb4 m6.lt).far' (by omega) _, ?_⟩
            · have h := n7.set_ i (v32 (x16 + X + x7 + Y))
              simp only [wCells, List.setIfInBounds_toArray, ← List.map_set] at h
              have e : schedN (fillW b 16) (i + 1 - 16) = L.set i (x16 + X + x7 + Y) := by
                rw [show i + 1 - 16 = (i - 16) + 1 by omega, schedN, ← HL.out, show 16 + (i - 16) = i by omega, HX.out, HY.out, HX16.out, HX7.out, HX15.out, HX2.out]
                rfl
              rw [e]
              exact h
            · exact (mF.then (Fr.of_below hb4 nob) (fun _ h => h.elim)).setCell (.inr (show w.heap.size ≤ p + 1 + 1 + 1 by have := HP.out; omega)) _
          case measure => simp [intOf]; omega
        · obtain rfl : i = 64 := by omega
          obtain ⟨wa, rfl⟩ : ∃ wa : World, wa = wr := ⟨_, rfl⟩
          clear q7 q3 q4 q6 qF
          have hw64 : schedN (fillW b 16) (64 - 16) = sched b := rfl
          rw [hw64] at r7
          clear hw64
          go_wp2_with (first
            | (refine wpList_load_blk rfl 94 (.tmp 3) rfl p 94 (stCells s) _ rfl r3 Try.underlying94 rfl (info94 s) ?_)
            | (with_reducible refine wpList_alloc_run rfl 94 rfl zero8 alloc94 ?_)
            | (refine wpList_store_blk rfl 94 (.tmp 13) (.tmp 97) rfl wa.heap.size 94 zero8 (stCells s) rfl rfl (Blk.new wa 94 zero8) rfl (info94 s) (one_st s) ?_
               intro wb hv hfb)
            | fail)
          have hFb : Fr nob wa wb := ((Fr.refl nob wa).alloc (.cells zero8 94)).then hfb (fun i hi => Or.inr (by unfold one at hi; omega))
          have v7 := r7.fr hFb (fun h => h)
          have v3 := r3.fr hFb (fun h => h)
          have v4 := r4.fr hFb (fun h => h)
          have v6 := r6.fr hFb (fun h => h)
          have vF : Fr nob w wb := rF.trans hFb
          obtain ⟨q, hq⟩ : ∃ q, q = wa.heap.size := ⟨_, rfl⟩
          have hqp : p + 1 + 1 + 1 < q := by rw [hq]; exact r7.lt
          rw [← hq] at hv ⊢
          clear hq r7 r3 r4 r6 rF hFb hfb
          have hll : (sched b).length = 64 := length_schedN _ (length_fillW _ _ (by omega)) _
          have HLL := Lib.hid hll
          have hRB : RB w wb p q s s (sched b) := ⟨v7, v3, v4, v6, hv, vF⟩
          obtain ⟨L, HL⟩ : ∃ L, Hid (L = sched b) := ⟨_, Lib.hid rfl⟩
          rw [← HL.out] at hRB HLL
          clear hll v7 v3 v4 v6 hv vF
          go_loopw [14, 15, 16, 17, 18, 19] (fun c14 _ _ _ _ _ wr => ∃ i : Nat, i ≤ 64 ∧ c14 = .int .i64 i ∧ RB w wr p q s (roundsN s L i) L) (fun c14 _ _ _ _ _ _ => 64 - (intOf c14).toNat)
          case atStart => exact ⟨0, by omega, rfl, hRB⟩
          case round =>
            clear hRB
            obtain ⟨i, hi, rfl, hR⟩ := hrel
            by_cases hlt : i < 64
            · have hd : decide ((i : Int) < 64) = true := decide_eq_true (by omega)
              obtain ⟨S, HS⟩ : ∃ S : St, Hid (S = roundsN s L i) := ⟨_, rfl⟩
              rw [← HS.out] at hR
              obtain ⟨hq, v0, v1, v2, v3, v4, v5, v6, v7⟩ := hR.cells
              have TA := Lib.hid (fun W => turn_z S.e 6 6 rfl (by omega) (by omega) W)
              have TB := Lib.hid (fun W => turn_z S.e 11 11 rfl (by omega) (by omega) W)
              have TC := Lib.hid (fun W => turn_z S.e 25 25 rfl (by omega) (by omega) W)
              go_wp2_with fail
              refine wp_region_quiet_below (by kernel_rfl) (by kernel_rfl) ?_
              repeat (go_big_quiet_step (first
                | (go_at_call 88; with_reducible exact regrown_same (TA.out _))
                | (go_at_call 88; with_reducible exact regrown_same (TB.out _))
                | (go_at_call 88; with_reducible exact regrown_same (TC.out _))))
              refine wpQuiet_nil ?_
              intro w2 hw2
              have hR2 := hR.keep (Re.below hw2)
              clear hw2 TA TB TC hR hq v0 v1 v2 v3 v4 v5 v6 v7
              obtain ⟨hq, v0, v1, v2, v3, v4, v5, v6, v7⟩ := hR2.cells
              obtain ⟨X, hX⟩ : ∃ X, X = rotl S.e 26 ^^^ rotl S.e 21 ^^^ rotl S.e 7 := ⟨_, rfl⟩
              rw [← hX]
              have HX := Lib.hid hX
              clear hX
              obtain ⟨hk1, hk2⟩ := hR2.key i hlt
              obtain ⟨hw1, hw2⟩ := hR2.word HLL.out i hlt
              obtain ⟨y, hy⟩ : ∃ y, y = K.getD i 0 := ⟨_, rfl⟩
              obtain ⟨z, hz⟩ : ∃ z, z = L.getD i 0 := ⟨_, rfl⟩
              rw [← hy] at hk2
              rw [← hz] at hw2
              have HYy := Lib.hid hy
              have HZz := Lib.hid hz
              clear hy hz
              obtain ⟨wb, rfl⟩ : ∃ wb : World, wb = w2 := ⟨_, rfl⟩
              go_wp2_with fail
              refine wp_region_quiet_below (by kernel_rfl) (by kernel_rfl) ?_
              repeat (go_big_quiet_step (fail))
              refine wpQuiet_nil ?_
              intro w3 hw3
              have hR3 := hR2.keep (Re.below hw3)
              clear hw3 hR2 hq v0 v1 v2 v3 v4 v5 v6 v7 hk1 hk2 hw1 hw2
              obtain ⟨T, hT⟩ : ∃ T, T = S.h + X + (S.e &&& S.f ^^^ ~~~S.e &&& S.g) + y + z := ⟨_, rfl⟩
              rw [← hT]
              have HT := Lib.hid hT
              clear hT
              obtain ⟨hq, v0, v1, v2, v3, v4, v5, v6, v7⟩ := hR3.cells
              have TA := Lib.hid (fun W => turn_z S.a 2 2 rfl (by omega) (by omega) W)
              have TB := Lib.hid (fun W => turn_z S.a 13 13 rfl (by omega) (by omega) W)
              have TC := Lib.hid (fun W => turn_z S.a 22 22 rfl (by omega) (by omega) W)
              obtain ⟨wc, rfl⟩ : ∃ wc : World, wc = w3 := ⟨_, rfl⟩
              go_wp2_with fail
              refine wp_region_quiet_below (by kernel_rfl) (by kernel_rfl) ?_
              repeat (go_big_quiet_step (first
                | (go_at_call 88; with_reducible exact regrown_same (TA.out _))
                | (go_at_call 88; with_reducible exact regrown_same (TB.out _))
                | (go_at_call 88; with_reducible exact regrown_same (TC.out _))))
              refine wpQuiet_nil ?_
              intro w4 hw4
              have hR4 := hR3.keep (Re.below hw4)
              clear hw4 TA TB TC hR3 hq v0 v1 v2 v3 v4 v5 v6 v7
              obtain ⟨hq, v0, v1, v2, v3, v4, v5, v6, v7⟩ := hR4.cells
              obtain ⟨Y, hY⟩ : ∃ Y, Y = rotl S.a 30 ^^^ rotl S.a 19 ^^^ rotl S.a 10 := ⟨_, rfl⟩
              rw [← hY]
              have HY := Lib.hid hY
              clear hY
              have hrv := hR4.rv
              obtain ⟨wd, rfl⟩ : ∃ wd : World, wd = w4 := ⟨_, rfl⟩
              go_wp2_with (first
                | (refine wpList_store_blk rfl 94 (.tmp 13) (.tmp 188) rfl q 94 (stCells S) (stCells ⟨T + Y + (S.a &&& S.b ^^^ S.a &&& S.c ^^^ S.b &&& S.c), S.a, S.b, S.c, S.d + T, S.e, S.f, S.g⟩) rfl rfl hrv rfl (info94 _) (one_st _) ?_
                   intro w5 hv5 hf5)
                | fail)
              go_roundw
              case rel =>
                refine ⟨i + 1, by omega, by go_num, hR4.r7.fr hf5 (by unfold one; omega), hR4.r3.fr hf5 (by unfold one; omega), hR4.r4.fr hf5 (by unfold one; omega), hR4.r6.fr hf5 (by unfold one; omega), ?_, hR4.rF.then hf5 (fun k hk => .inr (by unfold one at hk; have := HP.out; omega))⟩
                have e : roundsN s L (i + 1) = ⟨T + Y + (S.a &&& S.b ^^^ S.a &&& S.c ^^^ S.b &&& S.c), S.a, S.b, S.c, S.d + T, S.e, S.f, S.g⟩ := by
                  rw [roundsN, ← HS.out, Sha.step, Sha.tOf, Sha.uOf, HT.out, HX.out, HY.out, HYy.out, HZz.out]
                  simp only [mix3, UInt32.add_assoc]
                rw [e]
                exact hv5
              case measure => simp [intOf]; omega
            · have hd : decide ((i : Int) < 64) = false := decide_eq_false (by omega)
              obtain rfl : i = 64 := by omega
              obtain ⟨wd, rfl⟩ : ∃ wd : World, wd = wr := ⟨_, rfl⟩
              obtain ⟨S, HS⟩ : ∃ S : St, Hid (S = roundsN s L 64) := ⟨_, rfl⟩
              rw [← HS.out] at hR
              go_wp2_with fail
              go_loopw [20] (fun c wr => ∃ k : Nat, k ≤ 8 ∧ c = .int .i64 k ∧ Blk wr p 94 (stCells s) ∧ Blk wr (p + 1 + 1) 94 zero8 ∧ Blk wr q 94 (((List.range 8).map fun j => v32 (if j < k then S.list.getD j 0 + s.list.getD j 0 else S.list.getD j 0)).toArray) ∧ Fr nob w wr) (fun c _ => 8 - (intOf c).toNat)
              case atStart => exact ⟨0, by omega, rfl, hR.r3, hR.r6, hR.rv, hR.rF⟩
              case round =>
                clear hR
                obtain ⟨k, hk, rfl, q3, q6, qv, qF⟩ := hrel
                by_cases hlt : k < 8
                · have hd : decide ((k : Int) < 8) = true := decide_eq_true (by omega)
                  have e1 : wr.cell? ⟨q, k, none⟩ = some (.int .u32 (n32 (S.list.getD k 0))) := by rw [qv.cell]; simp [hlt, v32]
                  have e2 : wr.cell? ⟨p, k, none⟩ = some (.int .u32 (n32 (s.list.getD k 0))) := by rw [q3.cell, stCells_at s k hlt]
                  have t1 := qv.lt
                  have t2 := q3.lt
                  obtain ⟨x, hx⟩ : ∃ x, x = S.list.getD k 0 := ⟨_, rfl⟩
                  obtain ⟨y, hy⟩ : ∃ y, y = s.list.getD k 0 := ⟨_, rfl⟩
                  rw [← hx] at e1
                  rw [← hy] at e2
                  have Hx := Lib.hid hx
                  have Hy := Lib.hid hy
                  clear hx hy
                  go_wp2_with fail
                  refine wp_region_pre 8 0 (by kernel_rfl) (by kernel_rfl) rfl ?_
                  simp only [List.take_succ_cons, List.take_zero, List.drop_succ_cons, List.drop_zero]
                  repeat (go_big_quiet_step (fail))
                  refine wpQuiet_nil ?_
                  intro w2 hb2
                  have kv := qv.below hb2 t1
                  have d1 : w2.cell? ⟨q, k, none⟩ = some (.int .u32 (n32 x)) := (hb2.cell (p := ⟨q, k, none⟩) t1).trans e1
                  have d2 := kv.frozen k
                  go_wp2_with fail
                  go_roundw
                  case rel =>
                    refine ⟨k + 1, by omega, by go_num, (q3.below hb2 t2).far' (by omega) _, (q6.below hb2 q6.lt).far' (by omega) _, ?_, (qF.then (Fr.of_below hb2 nob) (fun _ h => h.elim)).setCell' (.inr (by have := HP.out; omega)) _⟩
                    have h := kv.set_ k (.int .u32 (n32 (x + y)))
                    have e : (((List.range 8).map fun j => v32 (if j < k then S.list.getD j 0 + s.list.getD j 0 else S.list.getD j 0)).toArray).setIfInBounds k (.int .u32 (n32 (x + y))) = (((List.range 8).map fun j => v32 (if j < k + 1 then S.list.getD j 0 + s.list.getD j 0 else S.list.getD j 0)).toArray) := by
                      rw [Hx.out, Hy.out]
                      match k, hlt with
                      | 0, _ | 1, _ | 2, _ | 3, _ | 4, _ | 5, _ | 6, _ | 7, _ => rfl
                    rw [e] at h
                    exact h
                  case measure => simp [intOf]; omega
                · have hd : decide ((k : Int) < 8) = false := decide_eq_false (by omega)
                  obtain rfl : k = 8 := by omega
                  have hfin : ((List.range 8).map fun j => v32 (if j < 8 then S.list.getD j 0 + s.list.getD j 0 else S.list.getD j 0)).toArray = stCells (s.add S) := by
                    have hc : ∀ x y : UInt32, x + y = y + x := UInt32.add_comm
                    show #[v32 (S.a + s.a), v32 (S.b + s.b), v32 (S.c + s.c), v32 (S.d + s.d), v32 (S.e + s.e), v32 (S.f + s.f), v32 (S.g + s.g), v32 (S.h + s.h)] = _
                    rw [hc S.a, hc S.b, hc S.c, hc S.d, hc S.e, hc S.f, hc S.g, hc S.h]
                    rfl
                  rw [hfin] at qv
                  obtain ⟨R, hR⟩ : ∃ R : St, R = s.add S := ⟨_, rfl⟩
                  rw [← hR] at qv
                  have HR := Lib.hid hR
                  clear hfin hR
                  go_wp2_with (first
                    | (refine wpList_load_blk rfl 94 (.tmp 13) rfl q 94 (stCells R) _ rfl qv Try.underlying94 rfl (info94 R) ?_)
                    | (refine wpList_store_blk rfl 94 (.tmp 6) (.tmp 201) rfl (p + 1 + 1) 94 zero8 (stCells R) rfl rfl q6 rfl (info94 R) (one_st R) ?_
                       intro w8 hb8 hf8)
                    | fail)
                  exact bodyPost_ret (v := .agg (stCells R)) (by
                    refine results_cell_row (cs := stCells R) rfl _ _ (p + 1 + 1) 94 (0, 0) _ rfl hb8 Try.underlying94 rfl (info94 R)) rfl
                    ⟨by rw [HR.out, HS.out, HL.out]; rfl, qF.below_nob.trans (hf8.below qF.size (fun k hk => by cases hk; have := HP.out; omega))⟩
end Go.Proofs.Ytnlkjhhocehhaaa
