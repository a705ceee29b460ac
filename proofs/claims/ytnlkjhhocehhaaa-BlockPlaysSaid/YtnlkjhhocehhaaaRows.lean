/-
  No cell of these rows narrows 'for every input' (looked for: loops, veiled, ifaces, maps, wideKeys, modest, calm, conditions, laid).
  DERIVED. THE GIVEN ROWS OF THIS SEAT. 17 by the template 'for every input the law returns true; each argument reads behind the call as it read before'; 0 by the template 'total and deterministic' (their statements: YtnlkjhhocehhaaaTotals.lean).
  GIVEN WITH THE SEED: the statements are not yours to turn. If you find one false, say at which input.
  Laid BY PROGRAM, IN A SANDBOX (cutbox-rows.mjs): the forced cells as the released guide's own fill.sh prints them over the translation cdc993c4e8271f7b… (all of the seat's roots in one cut). By AI agents, Wed Nov 11 2026. No macro, syntax, notation, axiom, sorry.
-/
import Derived.Test.YtnlkjhhocehhaaaChecked
import GoSem.Claim
import GoSem.ClaimJoined
import GoSem.ClaimMapViews
import Derived.JoinedTies
import Derived.KernelRfl
namespace Go.Proofs.Ytnlkjhhocehhaaa
/- THE CELL 'sum', in the pinned program and in every row, IS THE sha256 OF THE DUMP (.gsa) THAT YtnlkjhhocehhaaaProg.lean LOADS. Nothing in Lean hashes anything: it is a label: what it is worth is what the hold of that sum in a sandbox is worth. -/
noncomputable def Try.pinned : Pinned := { name := "ytnlkjhhocehhaaa", sum := "cdc993c4e8271f7bcd657cdec637f1a57783edb3ec822d3407c65f37bda389c0", checked := Try.checked }
namespace Rows
def none {H : Type} : Left H := { results := [], args := [] }

/-- 'lychgatelaw02.DigestOf': WHATEVER THE INPUT: true; the input reads as it did. -/
def digestOfSpec : ChangeSpec := { name := "digestOf", fn := fun _ => fun
  | [d] => { results := [.lit (.bool true)], args := [d] }
  | _ => none }
def digestOfRow : OpenClaim := { program := "ytnlkjhhocehhaaa", sum := "cdc993c4e8271f7bcd657cdec637f1a57783edb3ec822d3407c65f37bda389c0", func := "lychgate/lychgatelaw02.DigestOf", spec := "digestOf", inPlace := ["internal/abi.NoEscape"], recurses := true, apart := false }
def DigestOfSaid : Prop := digestOfRow.holds Try.pinned (OpenSpec.ofChange digestOfSpec)

/-- ITS FALSE NEIGHBOUR: 'it returns false'. Refute it at one input. -/
def digestOfWrong : ChangeSpec := { name := "digestOf", fn := fun _ => fun
  | [d] => { results := [.lit (.bool false)], args := [d] }
  | _ => none }
def DigestOfWrongFalsely : Prop := digestOfRow.holds Try.pinned (OpenSpec.ofChange digestOfWrong)

/-- 'lychgatelaw02.DigestPieces': WHATEVER THE INPUT: true; the input reads as it did. -/
def digestPiecesSpec : ChangeSpec := { name := "digestPieces", fn := fun _ => fun
  | [d1, d2] => { results := [.lit (.bool true)], args := [d1, d2] }
  | _ => none }
def digestPiecesRow : OpenClaim := { program := "ytnlkjhhocehhaaa", sum := "cdc993c4e8271f7bcd657cdec637f1a57783edb3ec822d3407c65f37bda389c0", func := "lychgate/lychgatelaw02.DigestPieces", spec := "digestPieces", inPlace := ["internal/abi.NoEscape"], recurses := true, apart := false }
def DigestPiecesSaid : Prop := digestPiecesRow.holds Try.pinned (OpenSpec.ofChange digestPiecesSpec)

/-- ITS FALSE NEIGHBOUR: 'it returns false'. Refute it at one input. -/
def digestPiecesWrong : ChangeSpec := { name := "digestPieces", fn := fun _ => fun
  | [d1, d2] => { results := [.lit (.bool false)], args := [d1, d2] }
  | _ => none }
def DigestPiecesWrongFalsely : Prop := digestPiecesRow.holds Try.pinned (OpenSpec.ofChange digestPiecesWrong)

/-- 'lychgatelaw02.DigestShort': WHATEVER THE INPUT: true; the input reads as it did. -/
def digestShortSpec : ChangeSpec := { name := "digestShort", fn := fun _ => fun
  | [d] => { results := [.lit (.bool true)], args := [d] }
  | _ => none }
def digestShortRow : OpenClaim := { program := "ytnlkjhhocehhaaa", sum := "cdc993c4e8271f7bcd657cdec637f1a57783edb3ec822d3407c65f37bda389c0", func := "lychgate/lychgatelaw02.DigestShort", spec := "digestShort", inPlace := ["internal/abi.NoEscape"], recurses := true, apart := false }
def DigestShortSaid : Prop := digestShortRow.holds Try.pinned (OpenSpec.ofChange digestShortSpec)

/-- ITS FALSE NEIGHBOUR: 'it returns false'. Refute it at one input. -/
def digestShortWrong : ChangeSpec := { name := "digestShort", fn := fun _ => fun
  | [d] => { results := [.lit (.bool false)], args := [d] }
  | _ => none }
def DigestShortWrongFalsely : Prop := digestShortRow.holds Try.pinned (OpenSpec.ofChange digestShortWrong)

/-- 'lychgatelaw02.DigestHex': WHATEVER THE INPUT: true; the input reads as it did. -/
def digestHexSpec : ChangeSpec := { name := "digestHex", fn := fun _ => fun
  | [d1, d2] => { results := [.lit (.bool true)], args := [d1, d2] }
  | _ => none }
def digestHexRow : OpenClaim := { program := "ytnlkjhhocehhaaa", sum := "cdc993c4e8271f7bcd657cdec637f1a57783edb3ec822d3407c65f37bda389c0", func := "lychgate/lychgatelaw02.DigestHex", spec := "digestHex", inPlace := ["internal/abi.NoEscape", "internal/bytealg.IndexByteString"], recurses := true, apart := false }
def DigestHexSaid : Prop := digestHexRow.holds Try.pinned (OpenSpec.ofChange digestHexSpec)

/-- ITS FALSE NEIGHBOUR: 'it returns false'. Refute it at one input. -/
def digestHexWrong : ChangeSpec := { name := "digestHex", fn := fun _ => fun
  | [d1, d2] => { results := [.lit (.bool false)], args := [d1, d2] }
  | _ => none }
def DigestHexWrongFalsely : Prop := digestHexRow.holds Try.pinned (OpenSpec.ofChange digestHexWrong)

/-- 'lychgatelaw02.DigestOnly': WHATEVER THE INPUT: true; the input reads as it did. -/
def digestOnlySpec : ChangeSpec := { name := "digestOnly", fn := fun _ => fun
  | [d1, d2] => { results := [.lit (.bool true)], args := [d1, d2] }
  | _ => none }
def digestOnlyRow : OpenClaim := { program := "ytnlkjhhocehhaaa", sum := "cdc993c4e8271f7bcd657cdec637f1a57783edb3ec822d3407c65f37bda389c0", func := "lychgate/lychgatelaw02.DigestOnly", spec := "digestOnly", inPlace := ["internal/abi.NoEscape", "internal/bytealg.IndexByteString"], recurses := true, apart := false }
def DigestOnlySaid : Prop := digestOnlyRow.holds Try.pinned (OpenSpec.ofChange digestOnlySpec)

/-- ITS FALSE NEIGHBOUR: 'it returns false'. Refute it at one input. -/
def digestOnlyWrong : ChangeSpec := { name := "digestOnly", fn := fun _ => fun
  | [d1, d2] => { results := [.lit (.bool false)], args := [d1, d2] }
  | _ => none }
def DigestOnlyWrongFalsely : Prop := digestOnlyRow.holds Try.pinned (OpenSpec.ofChange digestOnlyWrong)

/-- 'lychgatelaw03.SealKeys': WHATEVER THE INPUT: true; the input reads as it did. -/
def sealKeysSpec : ChangeSpec := { name := "sealKeys", fn := fun _ => fun
  | [d1, d2] => { results := [.lit (.bool true)], args := [d1, d2] }
  | _ => none }
def sealKeysRow : OpenClaim := { program := "ytnlkjhhocehhaaa", sum := "cdc993c4e8271f7bcd657cdec637f1a57783edb3ec822d3407c65f37bda389c0", func := "lychgate/lychgatelaw03.SealKeys", spec := "sealKeys", inPlace := ["internal/abi.NoEscape"], unfollowed := true, recurses := true, apart := false }
def SealKeysSaid : Prop := sealKeysRow.holds Try.pinned (OpenSpec.ofChange sealKeysSpec)

/-- ITS FALSE NEIGHBOUR: 'it returns false'. Refute it at one input. -/
def sealKeysWrong : ChangeSpec := { name := "sealKeys", fn := fun _ => fun
  | [d1, d2] => { results := [.lit (.bool false)], args := [d1, d2] }
  | _ => none }
def SealKeysWrongFalsely : Prop := sealKeysRow.holds Try.pinned (OpenSpec.ofChange sealKeysWrong)

/-- 'lychgatelaw03.SealOf': WHATEVER THE INPUT: true; the input reads as it did. -/
def sealOfSpec : ChangeSpec := { name := "sealOf", fn := fun _ => fun
  | [d1, d2, d3] => { results := [.lit (.bool true)], args := [d1, d2, d3] }
  | _ => none }
def sealOfRow : OpenClaim := { program := "ytnlkjhhocehhaaa", sum := "cdc993c4e8271f7bcd657cdec637f1a57783edb3ec822d3407c65f37bda389c0", func := "lychgate/lychgatelaw03.SealOf", spec := "sealOf", inPlace := ["internal/abi.NoEscape"], unfollowed := true, recurses := true, apart := false }
def SealOfSaid : Prop := sealOfRow.holds Try.pinned (OpenSpec.ofChange sealOfSpec)

/-- ITS FALSE NEIGHBOUR: 'it returns false'. Refute it at one input. -/
def sealOfWrong : ChangeSpec := { name := "sealOf", fn := fun _ => fun
  | [d1, d2, d3] => { results := [.lit (.bool false)], args := [d1, d2, d3] }
  | _ => none }
def SealOfWrongFalsely : Prop := sealOfRow.holds Try.pinned (OpenSpec.ofChange sealOfWrong)

/-- 'lychgatelaw03.SealParts': WHATEVER THE INPUT: true; the input reads as it did. -/
def sealPartsSpec : ChangeSpec := { name := "sealParts", fn := fun _ => fun
  | [d1, d2, d3] => { results := [.lit (.bool true)], args := [d1, d2, d3] }
  | _ => none }
def sealPartsRow : OpenClaim := { program := "ytnlkjhhocehhaaa", sum := "cdc993c4e8271f7bcd657cdec637f1a57783edb3ec822d3407c65f37bda389c0", func := "lychgate/lychgatelaw03.SealParts", spec := "sealParts", inPlace := ["internal/abi.NoEscape"], unfollowed := true, recurses := true, apart := false }
def SealPartsSaid : Prop := sealPartsRow.holds Try.pinned (OpenSpec.ofChange sealPartsSpec)

/-- ITS FALSE NEIGHBOUR: 'it returns false'. Refute it at one input. -/
def sealPartsWrong : ChangeSpec := { name := "sealParts", fn := fun _ => fun
  | [d1, d2, d3] => { results := [.lit (.bool false)], args := [d1, d2, d3] }
  | _ => none }
def SealPartsWrongFalsely : Prop := sealPartsRow.holds Try.pinned (OpenSpec.ofChange sealPartsWrong)

/-- 'lychgatelaw03.SealChain': WHATEVER THE INPUT: true; the input reads as it did. -/
def sealChainSpec : ChangeSpec := { name := "sealChain", fn := fun _ => fun
  | [d1, d2] => { results := [.lit (.bool true)], args := [d1, d2] }
  | _ => none }
def sealChainRow : OpenClaim := { program := "ytnlkjhhocehhaaa", sum := "cdc993c4e8271f7bcd657cdec637f1a57783edb3ec822d3407c65f37bda389c0", func := "lychgate/lychgatelaw03.SealChain", spec := "sealChain", inPlace := ["internal/abi.NoEscape"], unfollowed := true, recurses := true, apart := false }
def SealChainSaid : Prop := sealChainRow.holds Try.pinned (OpenSpec.ofChange sealChainSpec)

/-- ITS FALSE NEIGHBOUR: 'it returns false'. Refute it at one input. -/
def sealChainWrong : ChangeSpec := { name := "sealChain", fn := fun _ => fun
  | [d1, d2] => { results := [.lit (.bool false)], args := [d1, d2] }
  | _ => none }
def SealChainWrongFalsely : Prop := sealChainRow.holds Try.pinned (OpenSpec.ofChange sealChainWrong)

/-- 'lychgatelaw03.SealTwice': WHATEVER THE INPUT: true; the input reads as it did. -/
def sealTwiceSpec : ChangeSpec := { name := "sealTwice", fn := fun _ => fun
  | [d1, d2] => { results := [.lit (.bool true)], args := [d1, d2] }
  | _ => none }
def sealTwiceRow : OpenClaim := { program := "ytnlkjhhocehhaaa", sum := "cdc993c4e8271f7bcd657cdec637f1a57783edb3ec822d3407c65f37bda389c0", func := "lychgate/lychgatelaw03.SealTwice", spec := "sealTwice", inPlace := ["internal/abi.NoEscape"], unfollowed := true, recurses := true, apart := false }
def SealTwiceSaid : Prop := sealTwiceRow.holds Try.pinned (OpenSpec.ofChange sealTwiceSpec)

/-- ITS FALSE NEIGHBOUR: 'it returns false'. Refute it at one input. -/
def sealTwiceWrong : ChangeSpec := { name := "sealTwice", fn := fun _ => fun
  | [d1, d2] => { results := [.lit (.bool false)], args := [d1, d2] }
  | _ => none }
def SealTwiceWrongFalsely : Prop := sealTwiceRow.holds Try.pinned (OpenSpec.ofChange sealTwiceWrong)

/-- 'lychgatelaw03.SealFits': WHATEVER THE INPUT: true; the input reads as it did. -/
def sealFitsSpec : ChangeSpec := { name := "sealFits", fn := fun _ => fun
  | [d1, d2, d3] => { results := [.lit (.bool true)], args := [d1, d2, d3] }
  | _ => none }
def sealFitsRow : OpenClaim := { program := "ytnlkjhhocehhaaa", sum := "cdc993c4e8271f7bcd657cdec637f1a57783edb3ec822d3407c65f37bda389c0", func := "lychgate/lychgatelaw03.SealFits", spec := "sealFits", inPlace := ["internal/abi.NoEscape"], unfollowed := true, recurses := true, apart := false }
def SealFitsSaid : Prop := sealFitsRow.holds Try.pinned (OpenSpec.ofChange sealFitsSpec)

/-- ITS FALSE NEIGHBOUR: 'it returns false'. Refute it at one input. -/
def sealFitsWrong : ChangeSpec := { name := "sealFits", fn := fun _ => fun
  | [d1, d2, d3] => { results := [.lit (.bool false)], args := [d1, d2, d3] }
  | _ => none }
def SealFitsWrongFalsely : Prop := sealFitsRow.holds Try.pinned (OpenSpec.ofChange sealFitsWrong)

/-- 'lychgatelaw16.BlockScans': WHATEVER THE INPUT: true; the input reads as it did. -/
def blockScansSpec : ChangeSpec := { name := "blockScans", fn := fun _ => fun
  | [d1, d2] => { results := [.lit (.bool true)], args := [d1, d2] }
  | _ => none }
def blockScansRow : OpenClaim := { program := "ytnlkjhhocehhaaa", sum := "cdc993c4e8271f7bcd657cdec637f1a57783edb3ec822d3407c65f37bda389c0", func := "lychgate/lychgatelaw16.BlockScans", spec := "blockScans", unfollowed := true, recurses := true, apart := false }
def BlockScansSaid : Prop := blockScansRow.holds Try.pinned (OpenSpec.ofChange blockScansSpec)

/-- ITS FALSE NEIGHBOUR: 'it returns false'. Refute it at one input. -/
def blockScansWrong : ChangeSpec := { name := "blockScans", fn := fun _ => fun
  | [d1, d2] => { results := [.lit (.bool false)], args := [d1, d2] }
  | _ => none }
def BlockScansWrongFalsely : Prop := blockScansRow.holds Try.pinned (OpenSpec.ofChange blockScansWrong)

/-- 'lychgatelaw16.BlockBits': WHATEVER THE INPUT: true; the input reads as it did. -/
def blockBitsSpec : ChangeSpec := { name := "blockBits", fn := fun _ => fun
  | [d1, d2, d3] => { results := [.lit (.bool true)], args := [d1, d2, d3] }
  | _ => none }
def blockBitsRow : OpenClaim := { program := "ytnlkjhhocehhaaa", sum := "cdc993c4e8271f7bcd657cdec637f1a57783edb3ec822d3407c65f37bda389c0", func := "lychgate/lychgatelaw16.BlockBits", spec := "blockBits", unfollowed := true, recurses := true, apart := false }
def BlockBitsSaid : Prop := blockBitsRow.holds Try.pinned (OpenSpec.ofChange blockBitsSpec)

/-- ITS FALSE NEIGHBOUR: 'it returns false'. Refute it at one input. -/
def blockBitsWrong : ChangeSpec := { name := "blockBits", fn := fun _ => fun
  | [d1, d2, d3] => { results := [.lit (.bool false)], args := [d1, d2, d3] }
  | _ => none }
def BlockBitsWrongFalsely : Prop := blockBitsRow.holds Try.pinned (OpenSpec.ofChange blockBitsWrong)

/-- 'lychgatelaw16.BlockCuts': WHATEVER THE INPUT: true; the input reads as it did. -/
def blockCutsSpec : ChangeSpec := { name := "blockCuts", fn := fun _ => fun
  | [d1, d2, d3] => { results := [.lit (.bool true)], args := [d1, d2, d3] }
  | _ => none }
def blockCutsRow : OpenClaim := { program := "ytnlkjhhocehhaaa", sum := "cdc993c4e8271f7bcd657cdec637f1a57783edb3ec822d3407c65f37bda389c0", func := "lychgate/lychgatelaw16.BlockCuts", spec := "blockCuts", unfollowed := true, recurses := true, apart := false }
def BlockCutsSaid : Prop := blockCutsRow.holds Try.pinned (OpenSpec.ofChange blockCutsSpec)

/-- ITS FALSE NEIGHBOUR: 'it returns false'. Refute it at one input. -/
def blockCutsWrong : ChangeSpec := { name := "blockCuts", fn := fun _ => fun
  | [d1, d2, d3] => { results := [.lit (.bool false)], args := [d1, d2, d3] }
  | _ => none }
def BlockCutsWrongFalsely : Prop := blockCutsRow.holds Try.pinned (OpenSpec.ofChange blockCutsWrong)

/-- 'lychgatelaw16.BlockCompacts': WHATEVER THE INPUT: true; the input reads as it did. -/
def blockCompactsSpec : ChangeSpec := { name := "blockCompacts", fn := fun _ => fun
  | [d1, d2, d3] => { results := [.lit (.bool true)], args := [d1, d2, d3] }
  | _ => none }
def blockCompactsRow : OpenClaim := { program := "ytnlkjhhocehhaaa", sum := "cdc993c4e8271f7bcd657cdec637f1a57783edb3ec822d3407c65f37bda389c0", func := "lychgate/lychgatelaw16.BlockCompacts", spec := "blockCompacts", unfollowed := true, recurses := true, apart := false }
def BlockCompactsSaid : Prop := blockCompactsRow.holds Try.pinned (OpenSpec.ofChange blockCompactsSpec)

/-- ITS FALSE NEIGHBOUR: 'it returns false'. Refute it at one input. -/
def blockCompactsWrong : ChangeSpec := { name := "blockCompacts", fn := fun _ => fun
  | [d1, d2, d3] => { results := [.lit (.bool false)], args := [d1, d2, d3] }
  | _ => none }
def BlockCompactsWrongFalsely : Prop := blockCompactsRow.holds Try.pinned (OpenSpec.ofChange blockCompactsWrong)

/-- 'lychgatelaw16.BlockPlays': WHATEVER THE INPUT: true; the input reads as it did. -/
def blockPlaysSpec : ChangeSpec := { name := "blockPlays", fn := fun _ => fun
  | [d1, d2] => { results := [.lit (.bool true)], args := [d1, d2] }
  | _ => none }
def blockPlaysRow : OpenClaim := { program := "ytnlkjhhocehhaaa", sum := "cdc993c4e8271f7bcd657cdec637f1a57783edb3ec822d3407c65f37bda389c0", func := "lychgate/lychgatelaw16.BlockPlays", spec := "blockPlays", unfollowed := true, recurses := true, apart := false }
def BlockPlaysSaid : Prop := blockPlaysRow.holds Try.pinned (OpenSpec.ofChange blockPlaysSpec)

/-- ITS FALSE NEIGHBOUR: 'it returns false'. Refute it at one input. -/
def blockPlaysWrong : ChangeSpec := { name := "blockPlays", fn := fun _ => fun
  | [d1, d2] => { results := [.lit (.bool false)], args := [d1, d2] }
  | _ => none }
def BlockPlaysWrongFalsely : Prop := blockPlaysRow.holds Try.pinned (OpenSpec.ofChange blockPlaysWrong)

/-- 'lychgatelaw16.BlockNil': WHATEVER THE INPUT: true; the input reads as it did. -/
def blockNilSpec : ChangeSpec := { name := "blockNil", fn := fun _ => fun
  | [d] => { results := [.lit (.bool true)], args := [d] }
  | _ => none }
def blockNilRow : OpenClaim := { program := "ytnlkjhhocehhaaa", sum := "cdc993c4e8271f7bcd657cdec637f1a57783edb3ec822d3407c65f37bda389c0", func := "lychgate/lychgatelaw16.BlockNil", spec := "blockNil", unfollowed := true, recurses := true, apart := false }
def BlockNilSaid : Prop := blockNilRow.holds Try.pinned (OpenSpec.ofChange blockNilSpec)

/-- ITS FALSE NEIGHBOUR: 'it returns false'. Refute it at one input. -/
def blockNilWrong : ChangeSpec := { name := "blockNil", fn := fun _ => fun
  | [d] => { results := [.lit (.bool false)], args := [d] }
  | _ => none }
def BlockNilWrongFalsely : Prop := blockNilRow.holds Try.pinned (OpenSpec.ofChange blockNilWrong)

/- THE SECOND FORM. 'bulk': how many values and letters a reading holds, each counted each time it is reached (what is shared counts as often as it is met; a slice's spare places count too). A statement '..UptoSaid' is the law's where the arguments, and the package variables that the reading takes, are together of bulk at most 1048576: NARROWER than '..Said'. Prove '..Said' where nothing that the law and all that it calls make is longer than what came in: it says more and counts as full. Else prove '..UptoSaid'. A law counts once. -/
mutual
def uptoBulk {H : Type} : DataW H → Nat
  | .lit (.string bytes) => bytes.length + 1
  | .lit _ => 1
  | .nil => 1
  | .ptr d => uptoBulk d + 1
  | .slice elems spare => uptoBulkAll elems + uptoBulkAll spare + 1
  | .agg parts => uptoBulkAll parts + 1
  | .iface _ d => uptoBulk d + 1
  | .map entries => uptoBulkEntries entries + 1
  | .held _ => 1
def uptoBulkAll {H : Type} : List (DataW H) → Nat
  | [] => 0
  | d :: r => uptoBulk d + uptoBulkAll r
def uptoBulkEntries {H : Type} : List (Lit × DataW H) → Nat
  | [] => 0
  | x :: r => uptoBulkEntry x + uptoBulkEntries r
def uptoBulkEntry {H : Type} : Lit × DataW H → Nat
  | (.string bytes, d) => bytes.length + uptoBulk d + 1
  | (_, d) => uptoBulk d + 1
 end
def uptoSmall : (H : Type) → List (DataW H) → Bool := fun _ ds => decide (uptoBulkAll ds ≤ 1048576)
def OpenSpec.upto (s : _root_.Go.ChangeSpec) : _root_.Go.OpenSpec := { _root_.Go.OpenSpec.ofChange s with cond := some uptoSmall }

/-- 'lychgatelaw02.DigestOf', WHERE WHAT IT READS IS OF BULK AT MOST 1048576: true; the input reads as it did. -/
def digestOfUptoRow : OpenClaim := { program := "ytnlkjhhocehhaaa", sum := "cdc993c4e8271f7bcd657cdec637f1a57783edb3ec822d3407c65f37bda389c0", func := "lychgate/lychgatelaw02.DigestOf", spec := "digestOf", inPlace := ["internal/abi.NoEscape"], recurses := true, apart := false, narrowed := true }
def DigestOfUptoSaid : Prop := digestOfUptoRow.holds Try.pinned (OpenSpec.upto digestOfSpec)

/-- 'lychgatelaw02.DigestPieces', WHERE WHAT IT READS IS OF BULK AT MOST 1048576: true; the input reads as it did. -/
def digestPiecesUptoRow : OpenClaim := { program := "ytnlkjhhocehhaaa", sum := "cdc993c4e8271f7bcd657cdec637f1a57783edb3ec822d3407c65f37bda389c0", func := "lychgate/lychgatelaw02.DigestPieces", spec := "digestPieces", inPlace := ["internal/abi.NoEscape"], recurses := true, apart := false, narrowed := true }
def DigestPiecesUptoSaid : Prop := digestPiecesUptoRow.holds Try.pinned (OpenSpec.upto digestPiecesSpec)

/-- 'lychgatelaw02.DigestShort', WHERE WHAT IT READS IS OF BULK AT MOST 1048576: true; the input reads as it did. -/
def digestShortUptoRow : OpenClaim := { program := "ytnlkjhhocehhaaa", sum := "cdc993c4e8271f7bcd657cdec637f1a57783edb3ec822d3407c65f37bda389c0", func := "lychgate/lychgatelaw02.DigestShort", spec := "digestShort", inPlace := ["internal/abi.NoEscape"], recurses := true, apart := false, narrowed := true }
def DigestShortUptoSaid : Prop := digestShortUptoRow.holds Try.pinned (OpenSpec.upto digestShortSpec)

/-- 'lychgatelaw02.DigestHex', WHERE WHAT IT READS IS OF BULK AT MOST 1048576: true; the input reads as it did. -/
def digestHexUptoRow : OpenClaim := { program := "ytnlkjhhocehhaaa", sum := "cdc993c4e8271f7bcd657cdec637f1a57783edb3ec822d3407c65f37bda389c0", func := "lychgate/lychgatelaw02.DigestHex", spec := "digestHex", inPlace := ["internal/abi.NoEscape", "internal/bytealg.IndexByteString"], recurses := true, apart := false, narrowed := true }
def DigestHexUptoSaid : Prop := digestHexUptoRow.holds Try.pinned (OpenSpec.upto digestHexSpec)

/-- 'lychgatelaw02.DigestOnly', WHERE WHAT IT READS IS OF BULK AT MOST 1048576: true; the input reads as it did. -/
def digestOnlyUptoRow : OpenClaim := { program := "ytnlkjhhocehhaaa", sum := "cdc993c4e8271f7bcd657cdec637f1a57783edb3ec822d3407c65f37bda389c0", func := "lychgate/lychgatelaw02.DigestOnly", spec := "digestOnly", inPlace := ["internal/abi.NoEscape", "internal/bytealg.IndexByteString"], recurses := true, apart := false, narrowed := true }
def DigestOnlyUptoSaid : Prop := digestOnlyUptoRow.holds Try.pinned (OpenSpec.upto digestOnlySpec)

/-- 'lychgatelaw03.SealKeys', WHERE WHAT IT READS IS OF BULK AT MOST 1048576: true; the input reads as it did. -/
def sealKeysUptoRow : OpenClaim := { program := "ytnlkjhhocehhaaa", sum := "cdc993c4e8271f7bcd657cdec637f1a57783edb3ec822d3407c65f37bda389c0", func := "lychgate/lychgatelaw03.SealKeys", spec := "sealKeys", inPlace := ["internal/abi.NoEscape"], unfollowed := true, recurses := true, apart := false, narrowed := true }
def SealKeysUptoSaid : Prop := sealKeysUptoRow.holds Try.pinned (OpenSpec.upto sealKeysSpec)

/-- 'lychgatelaw03.SealOf', WHERE WHAT IT READS IS OF BULK AT MOST 1048576: true; the input reads as it did. -/
def sealOfUptoRow : OpenClaim := { program := "ytnlkjhhocehhaaa", sum := "cdc993c4e8271f7bcd657cdec637f1a57783edb3ec822d3407c65f37bda389c0", func := "lychgate/lychgatelaw03.SealOf", spec := "sealOf", inPlace := ["internal/abi.NoEscape"], unfollowed := true, recurses := true, apart := false, narrowed := true }
def SealOfUptoSaid : Prop := sealOfUptoRow.holds Try.pinned (OpenSpec.upto sealOfSpec)

/-- 'lychgatelaw03.SealParts', WHERE WHAT IT READS IS OF BULK AT MOST 1048576: true; the input reads as it did. -/
def sealPartsUptoRow : OpenClaim := { program := "ytnlkjhhocehhaaa", sum := "cdc993c4e8271f7bcd657cdec637f1a57783edb3ec822d3407c65f37bda389c0", func := "lychgate/lychgatelaw03.SealParts", spec := "sealParts", inPlace := ["internal/abi.NoEscape"], unfollowed := true, recurses := true, apart := false, narrowed := true }
def SealPartsUptoSaid : Prop := sealPartsUptoRow.holds Try.pinned (OpenSpec.upto sealPartsSpec)

/-- 'lychgatelaw03.SealChain', WHERE WHAT IT READS IS OF BULK AT MOST 1048576: true; the input reads as it did. -/
def sealChainUptoRow : OpenClaim := { program := "ytnlkjhhocehhaaa", sum := "cdc993c4e8271f7bcd657cdec637f1a57783edb3ec822d3407c65f37bda389c0", func := "lychgate/lychgatelaw03.SealChain", spec := "sealChain", inPlace := ["internal/abi.NoEscape"], unfollowed := true, recurses := true, apart := false, narrowed := true }
def SealChainUptoSaid : Prop := sealChainUptoRow.holds Try.pinned (OpenSpec.upto sealChainSpec)

/-- 'lychgatelaw03.SealTwice', WHERE WHAT IT READS IS OF BULK AT MOST 1048576: true; the input reads as it did. -/
def sealTwiceUptoRow : OpenClaim := { program := "ytnlkjhhocehhaaa", sum := "cdc993c4e8271f7bcd657cdec637f1a57783edb3ec822d3407c65f37bda389c0", func := "lychgate/lychgatelaw03.SealTwice", spec := "sealTwice", inPlace := ["internal/abi.NoEscape"], unfollowed := true, recurses := true, apart := false, narrowed := true }
def SealTwiceUptoSaid : Prop := sealTwiceUptoRow.holds Try.pinned (OpenSpec.upto sealTwiceSpec)

/-- 'lychgatelaw03.SealFits', WHERE WHAT IT READS IS OF BULK AT MOST 1048576: true; the input reads as it did. -/
def sealFitsUptoRow : OpenClaim := { program := "ytnlkjhhocehhaaa", sum := "cdc993c4e8271f7bcd657cdec637f1a57783edb3ec822d3407c65f37bda389c0", func := "lychgate/lychgatelaw03.SealFits", spec := "sealFits", inPlace := ["internal/abi.NoEscape"], unfollowed := true, recurses := true, apart := false, narrowed := true }
def SealFitsUptoSaid : Prop := sealFitsUptoRow.holds Try.pinned (OpenSpec.upto sealFitsSpec)

/-- 'lychgatelaw16.BlockScans', WHERE WHAT IT READS IS OF BULK AT MOST 1048576: true; the input reads as it did. -/
def blockScansUptoRow : OpenClaim := { program := "ytnlkjhhocehhaaa", sum := "cdc993c4e8271f7bcd657cdec637f1a57783edb3ec822d3407c65f37bda389c0", func := "lychgate/lychgatelaw16.BlockScans", spec := "blockScans", unfollowed := true, recurses := true, apart := false, narrowed := true }
def BlockScansUptoSaid : Prop := blockScansUptoRow.holds Try.pinned (OpenSpec.upto blockScansSpec)

/-- 'lychgatelaw16.BlockBits', WHERE WHAT IT READS IS OF BULK AT MOST 1048576: true; the input reads as it did. -/
def blockBitsUptoRow : OpenClaim := { program := "ytnlkjhhocehhaaa", sum := "cdc993c4e8271f7bcd657cdec637f1a57783edb3ec822d3407c65f37bda389c0", func := "lychgate/lychgatelaw16.BlockBits", spec := "blockBits", unfollowed := true, recurses := true, apart := false, narrowed := true }
def BlockBitsUptoSaid : Prop := blockBitsUptoRow.holds Try.pinned (OpenSpec.upto blockBitsSpec)

/-- 'lychgatelaw16.BlockCuts', WHERE WHAT IT READS IS OF BULK AT MOST 1048576: true; the input reads as it did. -/
def blockCutsUptoRow : OpenClaim := { program := "ytnlkjhhocehhaaa", sum := "cdc993c4e8271f7bcd657cdec637f1a57783edb3ec822d3407c65f37bda389c0", func := "lychgate/lychgatelaw16.BlockCuts", spec := "blockCuts", unfollowed := true, recurses := true, apart := false, narrowed := true }
def BlockCutsUptoSaid : Prop := blockCutsUptoRow.holds Try.pinned (OpenSpec.upto blockCutsSpec)

/-- 'lychgatelaw16.BlockCompacts', WHERE WHAT IT READS IS OF BULK AT MOST 1048576: true; the input reads as it did. -/
def blockCompactsUptoRow : OpenClaim := { program := "ytnlkjhhocehhaaa", sum := "cdc993c4e8271f7bcd657cdec637f1a57783edb3ec822d3407c65f37bda389c0", func := "lychgate/lychgatelaw16.BlockCompacts", spec := "blockCompacts", unfollowed := true, recurses := true, apart := false, narrowed := true }
def BlockCompactsUptoSaid : Prop := blockCompactsUptoRow.holds Try.pinned (OpenSpec.upto blockCompactsSpec)

/-- 'lychgatelaw16.BlockPlays', WHERE WHAT IT READS IS OF BULK AT MOST 1048576: true; the input reads as it did. -/
def blockPlaysUptoRow : OpenClaim := { program := "ytnlkjhhocehhaaa", sum := "cdc993c4e8271f7bcd657cdec637f1a57783edb3ec822d3407c65f37bda389c0", func := "lychgate/lychgatelaw16.BlockPlays", spec := "blockPlays", unfollowed := true, recurses := true, apart := false, narrowed := true }
def BlockPlaysUptoSaid : Prop := blockPlaysUptoRow.holds Try.pinned (OpenSpec.upto blockPlaysSpec)

/-- 'lychgatelaw16.BlockNil', WHERE WHAT IT READS IS OF BULK AT MOST 1048576: true; the input reads as it did. -/
def blockNilUptoRow : OpenClaim := { program := "ytnlkjhhocehhaaa", sum := "cdc993c4e8271f7bcd657cdec637f1a57783edb3ec822d3407c65f37bda389c0", func := "lychgate/lychgatelaw16.BlockNil", spec := "blockNil", unfollowed := true, recurses := true, apart := false, narrowed := true }
def BlockNilUptoSaid : Prop := blockNilUptoRow.holds Try.pinned (OpenSpec.upto blockNilSpec)

end Rows
end Go.Proofs.Ytnlkjhhocehhaaa
