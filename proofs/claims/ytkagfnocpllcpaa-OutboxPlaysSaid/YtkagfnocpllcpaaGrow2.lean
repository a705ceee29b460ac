/- As Grow, where two operations may come up first in either order. -/
import Derived.Test.YtkagfnocpllcpaaGrow
namespace Go.Proofs.Ytkagfnocpllcpaa
set_option linter.unusedVariables false
open Go Go.RowKit
section
variable {P : Program}
def forkB (md : Region.Mode) (ops : Array Oper) (T : Nat) (rs : List Nat) (t1 : Nat) (s1 : List (List Nat × Nat)) (f1 : List Nat) (t2 : Nat) (s2 : List (List Nat × Nat)) (f2 : List Nat) : Bool :=
  Region.noSelect ops && (decide (ops.size ≤ T) || sinkL md ops T ((List.range ops.size).filter (· != T))) && (rs ++ f1 ++ f2).all (· != T) && (s1 ++ s2).all (fun s => s.1.all (· != T)) &&
  decide (rs.length + (segsLen s1 f1 + 1) = ops.size) && decide (segsLen s1 f1 = segsLen s2 f2) &&
  lexS md ops (fun l => decide (Region.ready md ops l = [t1, t2]) && segsB md ops s1 f1 (l.setIfInBounds t1 true) && segsB md ops s2 f2 (l.setIfInBounds t2 true)) rs (Array.replicate ops.size false)
theorem wp_region_fork {id : Nat} {Q : Exit → Act → World → Prop} {a : Act} {w : World} {l : List Oper} (B T : Nat) (rs : List Nat) (t1 : Nat) (s1 : List (List Nat × Nat)) (f1 : List Nat) (t2 : Nat) (s2 : List (List Nat × Nat)) (f2 : List Nat)
    (hm : P.follows .mixedOrders = true) (hB : forkB .any l.toArray T rs t1 s1 f1 t2 s2 f2 = true) (L : List Oper) (o1 o2 : Oper) (hL : pick l.toArray rs = L) (ho1 : l.toArray[t1]? = some o1) (ho2 : l.toArray[t2]? = some o2) (hg1 : o1.guard = none) (hg2 : o2.guard = none)
    (h : wpQuiet P l.toArray (fun W => ∃ q : Kept (geB B) w.drew, W = q.x) (fun a' =>
      (∀ K : Act → World → Prop, (∀ B' a'' w', B ≤ B' → (t1 ≠ T → Fr (geB B) w.drew w') → wpSegs P l.toArray T (NoPan Q) B' s1 f1 a'' w' → K a'' w') → o1.wp P a' w.drew K (NoPan Q)) ∧
      (∀ K : Act → World → Prop, (∀ B' a'' w', B ≤ B' → (t2 ≠ T → Fr (geB B) w.drew w') → wpSegs P l.toArray T (NoPan Q) B' s2 f2 a'' w' → K a'' w') → o2.wp P a' w.drew K (NoPan Q))) L a) : (Code.region id l.toArray true).wp P Q a w := by
  refine Code.wp_mono (Q := NoPan Q) NoPan.to ?_
  simp only [forkB, Bool.and_eq_true, decide_eq_true_eq, Bool.or_eq_true] at hB
  obtain ⟨⟨⟨⟨⟨⟨hsel, hT⟩, hft⟩, hst⟩, hlen⟩, hlen2⟩, hlex⟩ := hB
  have hft' : ∀ r ∈ rs ++ f1 ++ f2, r ≠ T := fun r hr => by
    have h2 := List.all_eq_true.1 hft r hr
    simpa using h2
  have hst' : ∀ s ∈ s1 ++ s2, ∀ r ∈ s.1, r ≠ T := fun s hs r hr => by
    have h1 := List.all_eq_true.1 hst s hs
    have h2 := List.all_eq_true.1 h1 r hr
    simpa using h2
  have key : ∀ (i : Nat) (listed : Array Bool), i < l.toArray.size → listed.size = l.toArray.size → Closed .any l.toArray listed → listed.getD i true = false → i ≠ T → T ∉ Region.ready .any l.toArray listed := fun i listed hi hsz hcl hun hne => by
    rcases hT with hT | hT
    · intro hr
      obtain ⟨_, o, ho, _⟩ := mem_ready.1 hr
      have := (Array.getElem?_eq_some_iff.1 ho).1
      omega
    · exact sink_key hT (fun j hj => by simp at hj; simpa using hj.1) hsz hcl (by simp; exact ⟨by simpa using hi, hne⟩) hun
  refine wp_region_any hm (wpAny_of_B (T := T) _ B _ _ _ ?_)
  rw [← hL, ← class_eq] at h
  have := wpAnyB_lex (P := P) (Q' := NoPan Q) (md := .any) (T := T) (g := segsLen s1 f1 + 1) (B := B) (w := w.drew) hsel (fun _ _ _ _ _ h => h) key (fun listed a' hsz hcl hk hq => ?_) rs (Array.replicate l.toArray.size false) a (fun r hr => hft' r (by simp [hr])) (by simp)
    (fun j oj _ hl => (by rw [getD_replicate_false] at hl; cases hl)) hlex h
  · rw [hlen] at this; exact this
  · simp only [Bool.and_eq_true, decide_eq_true_eq] at hk
    obtain ⟨⟨hr, hs1⟩, hs2⟩ := hk
    refine ⟨fun h1 => (by rw [hr] at h1; cases h1), fun i hi => ?_⟩
    have hi' := hi
    rw [hr] at hi
    have wanted : ∀ (o : Oper), o.guard = none → Region.wanted o (yielded l.toArray a'.tmps) = true := fun o hg => by simp [Region.wanted, hg]
    rcases List.mem_cons.1 hi with rfl | hi
    · unfold wpOp
      simp only [ho1]
      rw [if_pos (wanted o1 hg1)]
      refine .inl (hq.1 _ (fun B' a'' w' h1 h2 h3 => ⟨h2, B', h1, ?_⟩))
      exact wpAnyB_of_segs hsel (fun _ _ _ _ _ h => h) key s1 f1 B' _ a'' w' (fun s hs' => hst' s (by simp [hs'])) (fun r hr => hft' r (by simp [hr])) (by simpa using hsz) (hcl.set hi') hs1 h3
    · have hi2 : i = t2 := by simpa using hi
      subst hi2
      unfold wpOp
      simp only [ho2]
      rw [if_pos (wanted o2 hg2)]
      refine .inl (hq.2 _ (fun B' a'' w' h1 h2 h3 => ⟨h2, B', h1, ?_⟩))
      rw [hlen2]
      exact wpAnyB_of_segs hsel (fun _ _ _ _ _ h => h) key s2 f2 B' _ a'' w' (fun s hs' => hst' s (by simp [hs'])) (fun r hr => hft' r (by simp [hr])) (by simpa using hsz) (hcl.set hi') hs2 h3
end
end Go.Proofs.Ytkagfnocpllcpaa
