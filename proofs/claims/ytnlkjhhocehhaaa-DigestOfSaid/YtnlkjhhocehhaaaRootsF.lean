/- The same roots, reckoned so that the kernel shares what it has reckoned. -/
import Derived.Test.YtnlkjhhocehhaaaRoots
namespace Go.Proofs.Ytnlkjhhocehhaaa
namespace Sha
def forceL {α : Type} : List Nat → (List Nat → α) → α
  | [], f => f []
  | x :: r, f => force x (fun x' => forceL r (fun r' => f (x' :: r')))
theorem forceL_eq {α : Type} : ∀ (l : List Nat) (f : List Nat → α), forceL l f = f l
  | [], f => rfl
  | x :: r, f => by rw [forceL, force_eq, forceL_eq r]
def tStepF (a b : List Nat) (i k : Nat) (o : List Nat) : List Nat :=
  forceL (o.set (i + k) ((o.getD (i + k) 0 + a.getD i 0 * b.getD k 0) % M64)) fun o1 =>
  forceL (o1.set (i + k + 1) ((o1.getD (i + k + 1) 0 + o1.getD (i + k) 0 / 65536) % M64)) fun o2 =>
  forceL (o2.set (i + k) (o2.getD (i + k) 0 % 65536)) fun o3 => o3
theorem tStepF_eq (a b : List Nat) (i k : Nat) (o : List Nat) : tStepF a b i k o = tStep a b i k o := by simp only [tStepF, forceL_eq, tStep]
def tRowF (a b : List Nat) (i : Nat) : Nat → List Nat → List Nat
  | 0, o => o
  | k + 1, o => forceL (tRowF a b i k o) fun o' => tStepF a b i k o'
theorem tRowF_eq (a b : List Nat) (i : Nat) : ∀ (k : Nat) (o : List Nat), tRowF a b i k o = tRow a b i k o
  | 0, o => rfl
  | k + 1, o => by rw [tRowF, forceL_eq, tStepF_eq, tRowF_eq a b i k, tRow]
def tAllF (a b : List Nat) : Nat → List Nat → List Nat
  | 0, o => o
  | i + 1, o => forceL (tAllF a b i o) fun o' => tRowF a b i b.length o'
theorem tAllF_eq (a b : List Nat) : ∀ (i : Nat) (o : List Nat), tAllF a b i o = tAll a b i o
  | 0, o => rfl
  | i + 1, o => by rw [tAllF, forceL_eq, tRowF_eq, tAllF_eq a b i, tAll]
def timesF (a b : List Nat) : List Nat := tAllF a b a.length (List.replicate (a.length + b.length) 0)
theorem timesF_eq (a b : List Nat) : timesF a b = timesL a b := tAllF_eq _ _ _ _
def powF (x : Nat) : Nat → List Nat
  | 0 => forceL (oneOf x) id
  | j + 1 => forceL (powF x j) fun p => forceL (oneOf x) fun o => timesF p o
theorem powF_eq (x : Nat) : ∀ j, powF x j = powL x j
  | 0 => by rw [powF, forceL_eq]; rfl
  | j + 1 => by rw [powF, forceL_eq, forceL_eq, timesF_eq, powF_eq x j, powL]
def rootF (p n : Nat) : Nat → Nat
  | 0 => 0
  | t + 1 => force (rootF p n t) fun lo => force (lo + 2 ^ (40 - t)) fun x =>
    forceL (powF x (n - 1)) fun q => cond (aboveL q (wholeOf p n)) lo x
theorem rootF_eq (p n : Nat) : ∀ t, rootF p n t = rootAt p n t
  | 0 => rfl
  | t + 1 => by
    rw [rootF, force_eq, force_eq, forceL_eq, powF_eq, rootF_eq p n t, rootAt]
    cases aboveL (powL (rootAt p n t + 2 ^ (40 - t)) (n - 1)) (wholeOf p n) <;> rfl
theorem rootL_eq (p n r : Nat) (h : rootF p n 41 % 4294967296 = r) : rootL p n = r := by rw [← h, rootF_eq]; rfl
end Sha
end Go.Proofs.Ytnlkjhhocehhaaa
