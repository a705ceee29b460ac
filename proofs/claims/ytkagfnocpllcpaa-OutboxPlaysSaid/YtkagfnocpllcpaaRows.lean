/-
  No cell of these rows narrows 'for every input' (looked for: loops, veiled, ifaces, maps, wideKeys, modest, calm, conditions, laid).
  DERIVED. THE GIVEN ROWS OF THIS SEAT. 6 by the template 'for every input the law returns true; each argument reads behind the call as it read before'; 0 by the template 'total and deterministic' (their statements: YtkagfnocpllcpaaTotals.lean).
  GIVEN WITH THE SEED: the statements are not yours to turn. If you find one false, say at which input.
  Laid BY PROGRAM, IN A SANDBOX (cutbox-rows.mjs): the forced cells as the released guide's own fill.sh prints them over the translation adce705ea6343360… (all of the seat's roots in one cut). By AI agents, Wed Nov 11 2026. No macro, syntax, notation, axiom, sorry.
-/
import Derived.Test.YtkagfnocpllcpaaChecked
import GoSem.Claim
import GoSem.ClaimJoined
import GoSem.ClaimMapViews
import Derived.JoinedTies
import Derived.KernelRfl
namespace Go.Proofs.Ytkagfnocpllcpaa
/- THE CELL 'sum', in the pinned program and in every row, IS THE sha256 OF THE DUMP (.gsa) THAT YtkagfnocpllcpaaProg.lean LOADS. Nothing in Lean hashes anything: it is a label: what it is worth is what the hold of that sum in a sandbox is worth. -/
noncomputable def Try.pinned : Pinned := { name := "ytkagfnocpllcpaa", sum := "adce705ea6343360a5eb1cc9ed5e6ca3790c123b87c859f87934088114339da0", checked := Try.checked }
namespace Rows
def none {H : Type} : Left H := { results := [], args := [] }

/-- 'lychgatelaw15.OutboxNil': WHATEVER THE INPUT: true; the input reads as it did. -/
def outboxNilSpec : ChangeSpec := { name := "outboxNil", fn := fun _ => fun
  | [d] => { results := [.lit (.bool true)], args := [d] }
  | _ => none }
def outboxNilRow : OpenClaim := { program := "ytkagfnocpllcpaa", sum := "adce705ea6343360a5eb1cc9ed5e6ca3790c123b87c859f87934088114339da0", func := "lychgate/lychgatelaw15.OutboxNil", spec := "outboxNil", unfollowed := true, recurses := true, apart := false }
def OutboxNilSaid : Prop := outboxNilRow.holds Try.pinned (OpenSpec.ofChange outboxNilSpec)

/-- ITS FALSE NEIGHBOUR: 'it returns false'. Refute it at one input. -/
def outboxNilWrong : ChangeSpec := { name := "outboxNil", fn := fun _ => fun
  | [d] => { results := [.lit (.bool false)], args := [d] }
  | _ => none }
def OutboxNilWrongFalsely : Prop := outboxNilRow.holds Try.pinned (OpenSpec.ofChange outboxNilWrong)

/-- 'lychgatelaw15.OutboxErrors': WHATEVER THE INPUT: true; the input reads as it did. -/
def outboxErrorsSpec : ChangeSpec := { name := "outboxErrors", fn := fun _ => fun
  | [d] => { results := [.lit (.bool true)], args := [d] }
  | _ => none }
def outboxErrorsRow : OpenClaim := { program := "ytkagfnocpllcpaa", sum := "adce705ea6343360a5eb1cc9ed5e6ca3790c123b87c859f87934088114339da0", func := "lychgate/lychgatelaw15.OutboxErrors", spec := "outboxErrors", unfollowed := true, recurses := true, apart := false }
def OutboxErrorsSaid : Prop := outboxErrorsRow.holds Try.pinned (OpenSpec.ofChange outboxErrorsSpec)

/-- ITS FALSE NEIGHBOUR: 'it returns false'. Refute it at one input. -/
def outboxErrorsWrong : ChangeSpec := { name := "outboxErrors", fn := fun _ => fun
  | [d] => { results := [.lit (.bool false)], args := [d] }
  | _ => none }
def OutboxErrorsWrongFalsely : Prop := outboxErrorsRow.holds Try.pinned (OpenSpec.ofChange outboxErrorsWrong)

/-- 'lychgatelaw15.OutboxWaits': WHATEVER THE INPUT: true; the input reads as it did. -/
def outboxWaitsSpec : ChangeSpec := { name := "outboxWaits", fn := fun _ => fun
  | [d] => { results := [.lit (.bool true)], args := [d] }
  | _ => none }
def outboxWaitsRow : OpenClaim := { program := "ytkagfnocpllcpaa", sum := "adce705ea6343360a5eb1cc9ed5e6ca3790c123b87c859f87934088114339da0", func := "lychgate/lychgatelaw15.OutboxWaits", spec := "outboxWaits", unfollowed := true, recurses := true, apart := false }
def OutboxWaitsSaid : Prop := outboxWaitsRow.holds Try.pinned (OpenSpec.ofChange outboxWaitsSpec)

/-- ITS FALSE NEIGHBOUR: 'it returns false'. Refute it at one input. -/
def outboxWaitsWrong : ChangeSpec := { name := "outboxWaits", fn := fun _ => fun
  | [d] => { results := [.lit (.bool false)], args := [d] }
  | _ => none }
def OutboxWaitsWrongFalsely : Prop := outboxWaitsRow.holds Try.pinned (OpenSpec.ofChange outboxWaitsWrong)

/-- 'lychgatelaw15.OutboxTries': WHATEVER THE INPUT: true; the input reads as it did. -/
def outboxTriesSpec : ChangeSpec := { name := "outboxTries", fn := fun _ => fun
  | [d1, d2] => { results := [.lit (.bool true)], args := [d1, d2] }
  | _ => none }
def outboxTriesRow : OpenClaim := { program := "ytkagfnocpllcpaa", sum := "adce705ea6343360a5eb1cc9ed5e6ca3790c123b87c859f87934088114339da0", func := "lychgate/lychgatelaw15.OutboxTries", spec := "outboxTries", unfollowed := true, recurses := true, apart := false }
def OutboxTriesSaid : Prop := outboxTriesRow.holds Try.pinned (OpenSpec.ofChange outboxTriesSpec)

/-- ITS FALSE NEIGHBOUR: 'it returns false'. Refute it at one input. -/
def outboxTriesWrong : ChangeSpec := { name := "outboxTries", fn := fun _ => fun
  | [d1, d2] => { results := [.lit (.bool false)], args := [d1, d2] }
  | _ => none }
def OutboxTriesWrongFalsely : Prop := outboxTriesRow.holds Try.pinned (OpenSpec.ofChange outboxTriesWrong)

/-- 'lychgatelaw15.OutboxRow': WHATEVER THE INPUT: true; the input reads as it did. -/
def outboxRowSpec : ChangeSpec := { name := "outboxRow", fn := fun _ => fun
  | [d] => { results := [.lit (.bool true)], args := [d] }
  | _ => none }
def outboxRowRow : OpenClaim := { program := "ytkagfnocpllcpaa", sum := "adce705ea6343360a5eb1cc9ed5e6ca3790c123b87c859f87934088114339da0", func := "lychgate/lychgatelaw15.OutboxRow", spec := "outboxRow", unfollowed := true, recurses := true, apart := false }
def OutboxRowSaid : Prop := outboxRowRow.holds Try.pinned (OpenSpec.ofChange outboxRowSpec)

/-- ITS FALSE NEIGHBOUR: 'it returns false'. Refute it at one input. -/
def outboxRowWrong : ChangeSpec := { name := "outboxRow", fn := fun _ => fun
  | [d] => { results := [.lit (.bool false)], args := [d] }
  | _ => none }
def OutboxRowWrongFalsely : Prop := outboxRowRow.holds Try.pinned (OpenSpec.ofChange outboxRowWrong)

/-- 'lychgatelaw15.OutboxPlays': WHATEVER THE INPUT: true; the input reads as it did. -/
def outboxPlaysSpec : ChangeSpec := { name := "outboxPlays", fn := fun _ => fun
  | [d] => { results := [.lit (.bool true)], args := [d] }
  | _ => none }
def outboxPlaysRow : OpenClaim := { program := "ytkagfnocpllcpaa", sum := "adce705ea6343360a5eb1cc9ed5e6ca3790c123b87c859f87934088114339da0", func := "lychgate/lychgatelaw15.OutboxPlays", spec := "outboxPlays", unfollowed := true, recurses := true, apart := false }
def OutboxPlaysSaid : Prop := outboxPlaysRow.holds Try.pinned (OpenSpec.ofChange outboxPlaysSpec)

/-- ITS FALSE NEIGHBOUR: 'it returns false'. Refute it at one input. -/
def outboxPlaysWrong : ChangeSpec := { name := "outboxPlays", fn := fun _ => fun
  | [d] => { results := [.lit (.bool false)], args := [d] }
  | _ => none }
def OutboxPlaysWrongFalsely : Prop := outboxPlaysRow.holds Try.pinned (OpenSpec.ofChange outboxPlaysWrong)

/- THE SECOND FORM. 'bulk': how many values and letters a reading holds, each counted each time it is reached (what is shared counts as often as it is met; a slice's spare places count too). A statement '..UptoSaid' is the law's where the arguments, and the package variables that the reading takes, are together of bulk at most 1048576: NARROWER than '..Said'. Prove '..Said' where nothing that the law and all that it calls make is longer than what came in: it says more and counts as full. Else prove '..UptoSaid'. A law counts once. -/
mutual
def uptoBulk {H : Type} : DataW H → Nat
  | .lit (.string bytes) => bytes.length + 1
  | .lit _ => 1
  | .nil => 1
  | .ptr d => uptoBulk d + 1
  | .slice elems spare => uptoBulkAll elems + uptoBulkAll spare + 1
  | .agg parts => uptoBulkAll parts + 1
  | .iface _ d => uptoBulk d + 1
  | .map entries => uptoBulkEntries entries + 1
  | .held _ => 1
def uptoBulkAll {H : Type} : List (DataW H) → Nat
  | [] => 0
  | d :: r => uptoBulk d + uptoBulkAll r
def uptoBulkEntries {H : Type} : List (Lit × DataW H) → Nat
  | [] => 0
  | x :: r => uptoBulkEntry x + uptoBulkEntries r
def uptoBulkEntry {H : Type} : Lit × DataW H → Nat
  | (.string bytes, d) => bytes.length + uptoBulk d + 1
  | (_, d) => uptoBulk d + 1
 end
def uptoSmall : (H : Type) → List (DataW H) → Bool := fun _ ds => decide (uptoBulkAll ds ≤ 1048576)
def OpenSpec.upto (s : _root_.Go.ChangeSpec) : _root_.Go.OpenSpec := { _root_.Go.OpenSpec.ofChange s with cond := some uptoSmall }

/-- 'lychgatelaw15.OutboxNil', WHERE WHAT IT READS IS OF BULK AT MOST 1048576: true; the input reads as it did. -/
def outboxNilUptoRow : OpenClaim := { program := "ytkagfnocpllcpaa", sum := "adce705ea6343360a5eb1cc9ed5e6ca3790c123b87c859f87934088114339da0", func := "lychgate/lychgatelaw15.OutboxNil", spec := "outboxNil", unfollowed := true, recurses := true, apart := false, narrowed := true }
def OutboxNilUptoSaid : Prop := outboxNilUptoRow.holds Try.pinned (OpenSpec.upto outboxNilSpec)

/-- 'lychgatelaw15.OutboxErrors', WHERE WHAT IT READS IS OF BULK AT MOST 1048576: true; the input reads as it did. -/
def outboxErrorsUptoRow : OpenClaim := { program := "ytkagfnocpllcpaa", sum := "adce705ea6343360a5eb1cc9ed5e6ca3790c123b87c859f87934088114339da0", func := "lychgate/lychgatelaw15.OutboxErrors", spec := "outboxErrors", unfollowed := true, recurses := true, apart := false, narrowed := true }
def OutboxErrorsUptoSaid : Prop := outboxErrorsUptoRow.holds Try.pinned (OpenSpec.upto outboxErrorsSpec)

/-- 'lychgatelaw15.OutboxWaits', WHERE WHAT IT READS IS OF BULK AT MOST 1048576: true; the input reads as it did. -/
def outboxWaitsUptoRow : OpenClaim := { program := "ytkagfnocpllcpaa", sum := "adce705ea6343360a5eb1cc9ed5e6ca3790c123b87c859f87934088114339da0", func := "lychgate/lychgatelaw15.OutboxWaits", spec := "outboxWaits", unfollowed := true, recurses := true, apart := false, narrowed := true }
def OutboxWaitsUptoSaid : Prop := outboxWaitsUptoRow.holds Try.pinned (OpenSpec.upto outboxWaitsSpec)

/-- 'lychgatelaw15.OutboxTries', WHERE WHAT IT READS IS OF BULK AT MOST 1048576: true; the input reads as it did. -/
def outboxTriesUptoRow : OpenClaim := { program := "ytkagfnocpllcpaa", sum := "adce705ea6343360a5eb1cc9ed5e6ca3790c123b87c859f87934088114339da0", func := "lychgate/lychgatelaw15.OutboxTries", spec := "outboxTries", unfollowed := true, recurses := true, apart := false, narrowed := true }
def OutboxTriesUptoSaid : Prop := outboxTriesUptoRow.holds Try.pinned (OpenSpec.upto outboxTriesSpec)

/-- 'lychgatelaw15.OutboxRow', WHERE WHAT IT READS IS OF BULK AT MOST 1048576: true; the input reads as it did. -/
def outboxRowUptoRow : OpenClaim := { program := "ytkagfnocpllcpaa", sum := "adce705ea6343360a5eb1cc9ed5e6ca3790c123b87c859f87934088114339da0", func := "lychgate/lychgatelaw15.OutboxRow", spec := "outboxRow", unfollowed := true, recurses := true, apart := false, narrowed := true }
def OutboxRowUptoSaid : Prop := outboxRowUptoRow.holds Try.pinned (OpenSpec.upto outboxRowSpec)

/-- 'lychgatelaw15.OutboxPlays', WHERE WHAT IT READS IS OF BULK AT MOST 1048576: true; the input reads as it did. -/
def outboxPlaysUptoRow : OpenClaim := { program := "ytkagfnocpllcpaa", sum := "adce705ea6343360a5eb1cc9ed5e6ca3790c123b87c859f87934088114339da0", func := "lychgate/lychgatelaw15.OutboxPlays", spec := "outboxPlays", unfollowed := true, recurses := true, apart := false, narrowed := true }
def OutboxPlaysUptoSaid : Prop := outboxPlaysUptoRow.holds Try.pinned (OpenSpec.upto outboxPlaysSpec)

end Rows
end Go.Proofs.Ytkagfnocpllcpaa
