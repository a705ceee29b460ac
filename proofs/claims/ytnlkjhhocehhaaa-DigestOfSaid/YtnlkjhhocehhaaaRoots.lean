/- The words that are reckoned from primes, as plain functions on numbers; that they are the words of the digest, by evaluation. -/
import Derived.Test.YtnlkjhhocehhaaaSha
namespace Go.Proofs.Ytnlkjhhocehhaaa
namespace Sha
def M64 : Nat := 18446744073709551616
def prStep (o : List Nat) (n : Nat) : List Nat := if o.all (fun p => n % p != 0) then o ++ [n] else o
def prAt : Nat → List Nat
  | 0 => []
  | t + 1 => prStep (prAt t) (t + 2)
/-- One step of the multiplication, at places i and k. -/
def tStep (a b : List Nat) (i k : Nat) (o : List Nat) : List Nat :=
  let o1 := o.set (i + k) ((o.getD (i + k) 0 + a.getD i 0 * b.getD k 0) % M64)
  let o2 := o1.set (i + k + 1) ((o1.getD (i + k + 1) 0 + o1.getD (i + k) 0 / 65536) % M64)
  o2.set (i + k) (o2.getD (i + k) 0 % 65536)
def tRow (a b : List Nat) (i : Nat) : Nat → List Nat → List Nat
  | 0, o => o
  | k + 1, o => tStep a b i k (tRow a b i k o)
def tAll (a b : List Nat) : Nat → List Nat → List Nat
  | 0, o => o
  | i + 1, o => tRow a b i b.length (tAll a b i o)
def timesL (a b : List Nat) : List Nat := tAll a b a.length (List.replicate (a.length + b.length) 0)
/-- Is a above b, looked at from place i - 1 down? -/
def aboveAt (a b : List Nat) : Nat → Bool
  | 0 => false
  | i + 1 => if a.getD i 0 ≠ b.getD i 0 then decide (b.getD i 0 < a.getD i 0) else aboveAt a b i
def aboveL (a b : List Nat) : Bool := aboveAt a b (max a.length b.length)
def oneOf (x : Nat) : List Nat := [x % 65536, x / 65536 % 65536, x / 4294967296]
def powL (x : Nat) : Nat → List Nat
  | 0 => oneOf x
  | j + 1 => timesL (powL x j) (oneOf x)
def wholeOf (p n : Nat) : List Nat := List.replicate (2 * n) 0 ++ [p]
def rootAt (p n : Nat) : Nat → Nat
  | 0 => 0
  | t + 1 => let x := rootAt p n t + 2 ^ (40 - t)
    if aboveL (powL x (n - 1)) (wholeOf p n) then rootAt p n t else x
def rootL (p n : Nat) : Nat := rootAt p n 41 % 4294967296
def primes64 : List Nat := prAt 310
theorem primes_len : (prAt 310).length = 64 ∧ (prAt 309).length = 63 := by decide +kernel
theorem primes_lt : ∀ p ∈ prAt 310, p < 65536 ∧ 0 < p := by decide +kernel
/-- Evaluation that shares: n is reckoned ahead of f. -/
def force {α : Sort _} (n : Nat) (f : Nat → α) : α := Nat.rec (f 0) (fun m _ => f (m + 1)) n
theorem force_eq {α : Sort _} (n : Nat) (f : Nat → α) : force n f = f n := by cases n <;> rfl
end Sha
end Go.Proofs.Ytnlkjhhocehhaaa
