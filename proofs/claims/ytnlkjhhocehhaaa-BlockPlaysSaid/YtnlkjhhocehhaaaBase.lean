/- Small laws for the walks: numbers of 32 and 8 bits as UInt32 and UInt8, and worlds that hold whatever another one held. -/
import Derived.Test.YtnlkjhhocehhaaaQtail
import Derived.Test.YtnlkjhhocehhaaaSha
import Derived.WalkKit
import Derived.Lib.QuietBelow
import Derived.BigQuiet
import Derived.Lib.Hide
namespace Go.Proofs.Ytnlkjhhocehhaaa
open Go Go.RowKit

/-! ### UInt32, UInt8 -/
theorem wrap_u32 (n : Int) : IntKind.u32.wrap n = n % 4294967296 := by
  simp [IntKind.wrap, IntKind.bits, IntKind.signed]
theorem wrap_u8 (n : Int) : IntKind.u8.wrap n = n % 256 := by
  simp [IntKind.wrap, IntKind.bits, IntKind.signed]
theorem u32_lt (x : UInt32) : x.toNat < 4294967296 := x.toNat_lt
theorem u8_lt (x : UInt8) : x.toNat < 256 := x.toNat_lt
/-- The number of a word, of a byte (plain definitions, so that the walk does not open them). -/
def n32 (x : UInt32) : Int := (x.toNat : Int)
def n8 (x : UInt8) : Int := (x.toNat : Int)
def v32 (x : UInt32) : Value := .int .u32 (n32 x)
def v8 (x : UInt8) : Value := .int .u8 (n8 x)
theorem n32_bd (x : UInt32) : 0 ≤ n32 x ∧ n32 x < 4294967296 := by unfold n32; have := u32_lt x; omega
theorem n8_bd (x : UInt8) : 0 ≤ n8 x ∧ n8 x < 256 := by unfold n8; have := u8_lt x; omega
theorem n8_inj {x y : UInt8} (h : n8 x = n8 y) : x = y := by unfold n8 at h; exact UInt8.toNat_inj.1 (by omega)
theorem n32_inj {x y : UInt32} (h : n32 x = n32 y) : x = y := by unfold n32 at h; exact UInt32.toNat_inj.1 (by omega)
theorem n8_beq (x y : UInt8) : (n8 x == n8 y) = (x == y) := by
  rw [Bool.eq_iff_iff]; simp only [beq_iff_eq]; exact ⟨n8_inj, fun h => by rw [h]⟩
theorem n8_bne (x y : UInt8) : (n8 x != n8 y) = (x != y) := by unfold bne; rw [n8_beq]
theorem n32_bne (x y : UInt32) : (n32 x != n32 y) = (x != y) := by
  unfold bne; congr 1; rw [Bool.eq_iff_iff]; simp only [beq_iff_eq]; exact ⟨n32_inj, fun h => by rw [h]⟩
theorem u32_add' (x y : UInt32) : IntKind.u32.wrap (n32 x + n32 y) = n32 (x + y) := by
  unfold n32; rw [wrap_u32, UInt32.toNat_add]; omega
theorem u32_add'' (x y : UInt32) : (n32 x + n32 y) % 4294967296 = n32 (x + y) := by rw [← wrap_u32, u32_add']
theorem u32_and' (x y : UInt32) : bits .and .u32 (n32 x) (n32 y) = n32 (x &&& y) := by
  show IntKind.u32.wrap ((BitVec.ofInt 32 (x.toNat : Int) &&& BitVec.ofInt 32 (y.toNat : Int)).toNat : Int) = ((x &&& y).toNat : Int)
  rw [BitVec.toNat_and, ofInt_u32 _ (u32_lt x), ofInt_u32 _ (u32_lt y), wrap_u32, ← UInt32.toNat_and]
  have := u32_lt (x &&& y); omega
theorem u32_or' (x y : UInt32) : bits .or .u32 (n32 x) (n32 y) = n32 (x ||| y) := by
  show IntKind.u32.wrap ((BitVec.ofInt 32 (x.toNat : Int) ||| BitVec.ofInt 32 (y.toNat : Int)).toNat : Int) = ((x ||| y).toNat : Int)
  rw [BitVec.toNat_or, ofInt_u32 _ (u32_lt x), ofInt_u32 _ (u32_lt y), wrap_u32, ← UInt32.toNat_or]
  have := u32_lt (x ||| y); omega
theorem u32_xor' (x y : UInt32) : bits .xor .u32 (n32 x) (n32 y) = n32 (x ^^^ y) := by
  show IntKind.u32.wrap ((BitVec.ofInt 32 (x.toNat : Int) ^^^ BitVec.ofInt 32 (y.toNat : Int)).toNat : Int) = ((x ^^^ y).toNat : Int)
  rw [BitVec.toNat_xor, ofInt_u32 _ (u32_lt x), ofInt_u32 _ (u32_lt y), wrap_u32, ← UInt32.toNat_xor]
  have := u32_lt (x ^^^ y); omega
theorem u32_not' (x : UInt32) : bits .xor .u32 4294967295 (n32 x) = n32 (~~~x) := by
  show IntKind.u32.wrap ((BitVec.ofInt 32 4294967295 ^^^ BitVec.ofInt 32 (x.toNat : Int)).toNat : Int) = ((~~~x).toNat : Int)
  have h1 : BitVec.ofInt 32 4294967295 = BitVec.allOnes 32 := by decide
  rw [h1, BitVec.allOnes_xor, BitVec.toNat_not, ofInt_u32 _ (u32_lt x), wrap_u32, UInt32.toNat_not]
  have := u32_lt x
  have : UInt32.size = 4294967296 := rfl
  omega
theorem u32_not'' (x : UInt32) : bits .xor .u32 (if IntKind.u32.signed = true then -1 else IntKind.u32.max) (n32 x) = n32 (~~~x) := u32_not' x
theorem toNat_ofNat (n : Nat) (h : n < 4294967296) : (UInt32.ofNat n).toNat = n := by
  simp [UInt32.toNat_ofNat']; omega
open Sha in
theorem shl_val (x : UInt32) (s : Nat) : n32 x * 2 ^ s % 4294967296 = n32 (shl x s) := by
  unfold n32 shl; rw [toNat_ofNat _ (Nat.mod_lt _ (by omega))]; simp
open Sha in
theorem shr_val (x : UInt32) (s : Nat) : n32 x / 2 ^ s = n32 (shr x s) := by
  unfold n32 shr; rw [toNat_ofNat _ (Nat.lt_of_le_of_lt (Nat.div_le_self _ _) (u32_lt x))]; simp
open Sha in
theorem u32_shl24 (x : UInt32) : IntKind.u32.wrap (n32 x * 16777216) = n32 (shl x 24) := by rw [wrap_u32]; exact shl_val x 24
open Sha in
theorem u32_shl16 (x : UInt32) : IntKind.u32.wrap (n32 x * 65536) = n32 (shl x 16) := by rw [wrap_u32]; exact shl_val x 16
open Sha in
theorem u32_shl8 (x : UInt32) : IntKind.u32.wrap (n32 x * 256) = n32 (shl x 8) := by rw [wrap_u32]; exact shl_val x 8
open Sha in
theorem u32_shl24' (x : UInt32) : (n32 x * 16777216) % 4294967296 = n32 (shl x 24) := shl_val x 24
open Sha in
theorem u32_shl16' (x : UInt32) : (n32 x * 65536) % 4294967296 = n32 (shl x 16) := shl_val x 16
open Sha in
theorem u32_shl8' (x : UInt32) : (n32 x * 256) % 4294967296 = n32 (shl x 8) := shl_val x 8
open Sha in
theorem rotl_val (x : UInt32) (s : Nat) : bits .or .u32 (n32 x * 2 ^ s % 4294967296) (n32 x / 2 ^ (32 - s)) = n32 (rotl x s) := by
  rw [shl_val, shr_val, u32_or']
  have hl : x.toNat / 2 ^ (32 - s) < 4294967296 := Nat.lt_of_le_of_lt (Nat.div_le_self _ _) (u32_lt x)
  congr 1
  apply UInt32.toNat_inj.1
  unfold rotl shl shr
  rw [UInt32.toNat_or, toNat_ofNat _ (Nat.mod_lt _ (by omega)), toNat_ofNat _ hl, toNat_ofNat]
  exact Nat.or_lt_two_pow (n := 32) (Nat.mod_lt _ (by omega)) hl
theorem u32_u8 (x : UInt8) : IntKind.u32.wrap (n8 x) = n32 x.toUInt32 := by
  unfold n8 n32; rw [wrap_u32, UInt8.toNat_toUInt32]; have := u8_lt x; omega
theorem u32_u8' (x : UInt8) : n8 x % 4294967296 = n32 x.toUInt32 := by rw [← wrap_u32, u32_u8]
theorem u8_u32 (x : UInt32) : IntKind.u8.wrap (n32 x) = n8 x.toUInt8 := by
  unfold n8 n32; rw [wrap_u8, UInt32.toNat_toUInt8]; omega
theorem u8_u32' (x : UInt32) : n32 x % 256 = n8 x.toUInt8 := by rw [← wrap_u8, u8_u32]

/-! ### Worlds that hold whatever w held -/
theorem cell_re {w : World} {d : Nat} {os : Array Obj} {b o : Nat} {s : Option Nat} (h : b < w.heap.size) : (Sort.grow (redrawn w d) os).cell? ⟨b, o, s⟩ = w.cell? ⟨b, o, s⟩ :=
  (below_regrown w d os).cell (p := ⟨b, o, s⟩) h
theorem frozen_re {w : World} {d : Nat} {os : Array Obj} {b o : Nat} {s : Option Nat} (h : b < w.heap.size) : (Sort.grow (redrawn w d) os).frozen? ⟨b, o, s⟩ = w.frozen? ⟨b, o, s⟩ :=
  (below_regrown w d os).frozen (p := ⟨b, o, s⟩) h
theorem heap_re {w : World} {d : Nat} {os : Array Obj} {b : Nat} (h : b < w.heap.size) : (Sort.grow (redrawn w d) os).heap[b]? = w.heap[b]? :=
  (below_regrown w d os).block b h
def Re (w w' : World) : Prop := ∃ p : Regrown, w' = Sort.grow (redrawn w p.d) p.os
theorem Re.below {w w' : World} (h : ∃ p : Regrown, w' = Sort.grow (redrawn w p.d) p.os) : Below w.heap.size w w' := by
  obtain ⟨p, rfl⟩ := h; exact below_regrown w p.d p.os
/-- A region that draws its order: H in any order, then T: the worlds behind H hold whatever w held. -/
theorem wp_region_re {P : Program} {id : Nat} {Q : Exit → Act → World → Prop} {a : Act} {w : World} {l : List Oper} (H : List Nat) (t0 : Nat) (T : List Nat) (hm : P.follows .mixedOrders = true) (hB : tailB .any l.toArray H t0 T = true)
    (h : wpQuiet P l.toArray (fun w' => ∃ p : Regrown, w' = Sort.grow (redrawn w p.d) p.os) (fun a' => ∀ w', Below w.heap.size w w' → wpList P l.toArray Q (pick l.toArray (t0 :: T)) a' w') (pick l.toArray H) a) : (Code.region id l.toArray true).wp P Q a w := by
  refine wp_region_qtail (fun w' => ∃ p : Regrown, w' = Sort.grow (redrawn w p.d) p.os) H t0 T hm hB ⟨⟨w.drawn + 1, #[]⟩, by rw [Sort.grow_empty]; rfl⟩ ?_
  have mono : ∀ (L : List Oper) (a : Act) (Q1 Q2 : Act → Prop), (∀ a, Q1 a → Q2 a) → wpQuiet P l.toArray (fun w' => ∃ p : Regrown, w' = Sort.grow (redrawn w p.d) p.os) Q1 L a → wpQuiet P l.toArray (fun w' => ∃ p : Regrown, w' = Sort.grow (redrawn w p.d) p.os) Q2 L a := by
    intro L
    induction L with
    | nil => intro a Q1 Q2 hq h; exact hq _ h
    | cons o L ih =>
      intro a Q1 Q2 hq h
      unfold wpQuiet at h ⊢
      split
      · rename_i hw; rw [if_pos hw] at h; exact Oper.quiet_mono (fun a => ih a Q1 Q2 hq) h
      · rename_i hw; rw [if_neg hw] at h; exact ih _ Q1 Q2 hq h
  exact mono _ _ _ _ (fun a h w' hw' => h w' (Re.below hw')) h
theorem pick_range' (l : List Oper) : ∀ (m n : Nat), n + m ≤ l.length → pick l.toArray (List.range' n m) = (l.drop n).take m
  | 0, n, _ => by simp [pick]
  | m + 1, n, h => by
    have hn : n < l.length := by omega
    have ih := pick_range' l m (n + 1) (by omega)
    unfold pick at ih ⊢
    rw [List.range'_succ, List.filterMap_cons]
    simp only [List.getElem?_toArray, List.getElem?_eq_getElem hn] at ih ⊢
    rw [ih, List.drop_eq_getElem_cons hn, List.take_succ_cons]
/-- The first n operations in any order, then the others one after the other. -/
theorem wp_region_pre {P : Program} {id : Nat} {Q : Exit → Act → World → Prop} {a : Act} {w : World} {l : List Oper} (n m : Nat) (hm : P.follows .mixedOrders = true) (hB : tailB .any l.toArray (List.range' 0 n) n (List.range' (n + 1) m) = true)
    (hl : n + (m + 1) = l.length)
    (h : wpQuiet P l.toArray (fun w' => ∃ p : Regrown, w' = Sort.grow (redrawn w p.d) p.os) (fun a' => ∀ w', Below w.heap.size w w' → wpList P l.toArray Q (l.drop n) a' w') (l.take n) a) : (Code.region id l.toArray true).wp P Q a w := by
  refine wp_region_re (List.range' 0 n) n (List.range' (n + 1) m) hm hB ?_
  have e1 : pick l.toArray (List.range' 0 n) = l.take n := by rw [pick_range' l n 0 (by omega)]; rfl
  have e2 : pick l.toArray (n :: List.range' (n + 1) m) = l.drop n := by
    rw [← List.range'_succ, pick_range' l (m + 1) n (by omega), List.take_of_length_le (by simp; omega)]
  rw [e1, e2]
  exact h
theorem regrown_below {P : Program} {f : FuncId} {args : Array Value} {w : World} {p : Regrown} {v : Value}
    (h : Calls P f args (Sort.grow (redrawn w p.d) p.os) fun e w' => e = .returned v ∧ Below (Sort.grow (redrawn w p.d) p.os).heap.size (Sort.grow (redrawn w p.d) p.os) w') : Calls P f args (Sort.grow (redrawn w p.d) p.os) fun e w'' => e = .returned v ∧ ∃ p : Regrown, w'' = Sort.grow (redrawn w p.d) p.os := Calls.regrown_of h
theorem regrown_same {P : Program} {f : FuncId} {args : Array Value} {w : World} {p : Regrown} {v : Value}
    (h : Calls P f args (Sort.grow (redrawn w p.d) p.os) fun e w' => e = .returned v ∧ (Sort.grow (redrawn w p.d) p.os) = w') : Calls P f args (Sort.grow (redrawn w p.d) p.os) fun e w'' => e = .returned v ∧ ∃ p : Regrown, w'' = Sort.grow (redrawn w p.d) p.os :=
  h.mono fun _ _ ⟨he, hw⟩ => ⟨he, p, hw.symm⟩
attribute [go_sem] cell_re frozen_re u32_add' u32_add'' u32_and' u32_or' u32_xor' u32_not' u32_not'' u32_u8 u32_u8' u8_u32 u8_u32' u32_shl24 u32_shl16 u32_shl8 u32_shl24' u32_shl16' u32_shl8'
end Go.Proofs.Ytnlkjhhocehhaaa
