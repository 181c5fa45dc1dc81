/-
  No cell of these rows narrows 'for every input' (looked for: loops, veiled, ifaces, maps, wideKeys, modest, calm, conditions, laid).
  DERIVED. THE GIVEN ROWS OF THIS SEAT. 8 by the template 'for every input the law returns true; each argument reads behind the call as it read before'; 0 by the template 'total and deterministic' (their statements: YtcmoldondflilaaTotals.lean).
  GIVEN WITH THE SEED: the statements are not yours to turn. If you find one false, say at which input.
  Laid BY PROGRAM, IN A SANDBOX (cutbox-rows.mjs): the forced cells as the released guide's own fill.sh prints them over the translation 999b7bb39d9b40a0… (all of the seat's roots in one cut). By AI agents, Wed Nov 11 2026. No macro, syntax, notation, axiom, sorry.
-/
import Derived.Test.YtcmoldondflilaaChecked
import GoSem.Claim
import GoSem.ClaimJoined
import GoSem.ClaimMapViews
import Derived.JoinedTies
import Derived.KernelRfl
namespace Go.Proofs.Ytcmoldondflilaa
/- THE CELL 'sum', in the pinned program and in every row, IS THE sha256 OF THE DUMP (.gsa) THAT YtcmoldondflilaaProg.lean LOADS. Nothing in Lean hashes anything: it is a label: what it is worth is what the hold of that sum in a sandbox is worth. -/
noncomputable def Try.pinned : Pinned := { name := "ytcmoldondflilaa", sum := "999b7bb39d9b40a0d662aa3f795c9198b92b821487d77403604ff3bc2a2e7ec7", checked := Try.checked }
namespace Rows
def none {H : Type} : Left H := { results := [], args := [] }

/-- 'quillpenlaw10.WriteLines': WHATEVER THE INPUT: true; the input reads as it did. -/
def writeLinesSpec : ChangeSpec := { name := "writeLines", fn := fun _ => fun
  | [d1, d2, d3] => { results := [.lit (.bool true)], args := [d1, d2, d3] }
  | _ => none }
def writeLinesRow : OpenClaim := { program := "ytcmoldondflilaa", sum := "999b7bb39d9b40a0d662aa3f795c9198b92b821487d77403604ff3bc2a2e7ec7", func := "quillpen/quillpenlaw10.WriteLines", spec := "writeLines", inPlace := ["internal/abi.NoEscape", "internal/bytealg.IndexByteString"], apart := false }
def WriteLinesSaid : Prop := writeLinesRow.holds Try.pinned (OpenSpec.ofChange writeLinesSpec)

/-- ITS FALSE NEIGHBOUR: 'it returns false'. Refute it at one input. -/
def writeLinesWrong : ChangeSpec := { name := "writeLines", fn := fun _ => fun
  | [d1, d2, d3] => { results := [.lit (.bool false)], args := [d1, d2, d3] }
  | _ => none }
def WriteLinesWrongFalsely : Prop := writeLinesRow.holds Try.pinned (OpenSpec.ofChange writeLinesWrong)

/-- 'quillpenlaw10.WriteReads': WHATEVER THE INPUT: true; the input reads as it did. -/
def writeReadsSpec : ChangeSpec := { name := "writeReads", fn := fun _ => fun
  | [d1, d2] => { results := [.lit (.bool true)], args := [d1, d2] }
  | _ => none }
def writeReadsRow : OpenClaim := { program := "ytcmoldondflilaa", sum := "999b7bb39d9b40a0d662aa3f795c9198b92b821487d77403604ff3bc2a2e7ec7", func := "quillpen/quillpenlaw10.WriteReads", spec := "writeReads", inPlace := ["internal/abi.NoEscape", "internal/bytealg.IndexByteString"], apart := false }
def WriteReadsSaid : Prop := writeReadsRow.holds Try.pinned (OpenSpec.ofChange writeReadsSpec)

/-- ITS FALSE NEIGHBOUR: 'it returns false'. Refute it at one input. -/
def writeReadsWrong : ChangeSpec := { name := "writeReads", fn := fun _ => fun
  | [d1, d2] => { results := [.lit (.bool false)], args := [d1, d2] }
  | _ => none }
def WriteReadsWrongFalsely : Prop := writeReadsRow.holds Try.pinned (OpenSpec.ofChange writeReadsWrong)

/-- 'quillpenlaw10.WriteLess': WHATEVER THE INPUT: true; the input reads as it did. -/
def writeLessSpec : ChangeSpec := { name := "writeLess", fn := fun _ => fun
  | [d1, d2, d3] => { results := [.lit (.bool true)], args := [d1, d2, d3] }
  | _ => none }
def writeLessRow : OpenClaim := { program := "ytcmoldondflilaa", sum := "999b7bb39d9b40a0d662aa3f795c9198b92b821487d77403604ff3bc2a2e7ec7", func := "quillpen/quillpenlaw10.WriteLess", spec := "writeLess", inPlace := ["internal/abi.NoEscape", "internal/bytealg.IndexByteString"], apart := false }
def WriteLessSaid : Prop := writeLessRow.holds Try.pinned (OpenSpec.ofChange writeLessSpec)

/-- ITS FALSE NEIGHBOUR: 'it returns false'. Refute it at one input. -/
def writeLessWrong : ChangeSpec := { name := "writeLess", fn := fun _ => fun
  | [d1, d2, d3] => { results := [.lit (.bool false)], args := [d1, d2, d3] }
  | _ => none }
def WriteLessWrongFalsely : Prop := writeLessRow.holds Try.pinned (OpenSpec.ofChange writeLessWrong)

/-- 'quillpenlaw10.WriteTables': WHATEVER THE INPUT: true; the input reads as it did. -/
def writeTablesSpec : ChangeSpec := { name := "writeTables", fn := fun _ => fun
  | [d1, d2] => { results := [.lit (.bool true)], args := [d1, d2] }
  | _ => none }
def writeTablesRow : OpenClaim := { program := "ytcmoldondflilaa", sum := "999b7bb39d9b40a0d662aa3f795c9198b92b821487d77403604ff3bc2a2e7ec7", func := "quillpen/quillpenlaw10.WriteTables", spec := "writeTables", inPlace := ["internal/abi.NoEscape", "internal/bytealg.IndexByteString"], unfollowed := true, recurses := true, apart := false }
def WriteTablesSaid : Prop := writeTablesRow.holds Try.pinned (OpenSpec.ofChange writeTablesSpec)

/-- ITS FALSE NEIGHBOUR: 'it returns false'. Refute it at one input. -/
def writeTablesWrong : ChangeSpec := { name := "writeTables", fn := fun _ => fun
  | [d1, d2] => { results := [.lit (.bool false)], args := [d1, d2] }
  | _ => none }
def WriteTablesWrongFalsely : Prop := writeTablesRow.holds Try.pinned (OpenSpec.ofChange writeTablesWrong)

/-- 'quillpenlaw11.PiecesOwn': WHATEVER THE INPUT: true; the input reads as it did. -/
def piecesOwnSpec : ChangeSpec := { name := "piecesOwn", fn := fun _ => fun
  | [d1, d2, d3] => { results := [.lit (.bool true)], args := [d1, d2, d3] }
  | _ => none }
def piecesOwnRow : OpenClaim := { program := "ytcmoldondflilaa", sum := "999b7bb39d9b40a0d662aa3f795c9198b92b821487d77403604ff3bc2a2e7ec7", func := "quillpen/quillpenlaw11.PiecesOwn", spec := "piecesOwn", inPlace := ["internal/abi.NoEscape", "internal/bytealg.IndexByteString"], apart := false }
def PiecesOwnSaid : Prop := piecesOwnRow.holds Try.pinned (OpenSpec.ofChange piecesOwnSpec)

/-- ITS FALSE NEIGHBOUR: 'it returns false'. Refute it at one input. -/
def piecesOwnWrong : ChangeSpec := { name := "piecesOwn", fn := fun _ => fun
  | [d1, d2, d3] => { results := [.lit (.bool false)], args := [d1, d2, d3] }
  | _ => none }
def PiecesOwnWrongFalsely : Prop := piecesOwnRow.holds Try.pinned (OpenSpec.ofChange piecesOwnWrong)

/-- 'quillpenlaw11.PiecesText': WHATEVER THE INPUT: true; the input reads as it did. -/
def piecesTextSpec : ChangeSpec := { name := "piecesText", fn := fun _ => fun
  | [d1, d2, d3] => { results := [.lit (.bool true)], args := [d1, d2, d3] }
  | _ => none }
def piecesTextRow : OpenClaim := { program := "ytcmoldondflilaa", sum := "999b7bb39d9b40a0d662aa3f795c9198b92b821487d77403604ff3bc2a2e7ec7", func := "quillpen/quillpenlaw11.PiecesText", spec := "piecesText", inPlace := ["internal/abi.NoEscape", "internal/bytealg.IndexByteString"], apart := false }
def PiecesTextSaid : Prop := piecesTextRow.holds Try.pinned (OpenSpec.ofChange piecesTextSpec)

/-- ITS FALSE NEIGHBOUR: 'it returns false'. Refute it at one input. -/
def piecesTextWrong : ChangeSpec := { name := "piecesText", fn := fun _ => fun
  | [d1, d2, d3] => { results := [.lit (.bool false)], args := [d1, d2, d3] }
  | _ => none }
def PiecesTextWrongFalsely : Prop := piecesTextRow.holds Try.pinned (OpenSpec.ofChange piecesTextWrong)

/-- 'quillpenlaw11.PiecesPlays': WHATEVER THE INPUT: true; the input reads as it did. -/
def piecesPlaysSpec : ChangeSpec := { name := "piecesPlays", fn := fun _ => fun
  | [d1, d2] => { results := [.lit (.bool true)], args := [d1, d2] }
  | _ => none }
def piecesPlaysRow : OpenClaim := { program := "ytcmoldondflilaa", sum := "999b7bb39d9b40a0d662aa3f795c9198b92b821487d77403604ff3bc2a2e7ec7", func := "quillpen/quillpenlaw11.PiecesPlays", spec := "piecesPlays", inPlace := ["internal/abi.NoEscape", "internal/bytealg.IndexByteString"], apart := false }
def PiecesPlaysSaid : Prop := piecesPlaysRow.holds Try.pinned (OpenSpec.ofChange piecesPlaysSpec)

/-- ITS FALSE NEIGHBOUR: 'it returns false'. Refute it at one input. -/
def piecesPlaysWrong : ChangeSpec := { name := "piecesPlays", fn := fun _ => fun
  | [d1, d2] => { results := [.lit (.bool false)], args := [d1, d2] }
  | _ => none }
def PiecesPlaysWrongFalsely : Prop := piecesPlaysRow.holds Try.pinned (OpenSpec.ofChange piecesPlaysWrong)

/-- 'quillpenlaw11.PiecesDrain': WHATEVER THE INPUT: true; the input reads as it did. -/
def piecesDrainSpec : ChangeSpec := { name := "piecesDrain", fn := fun _ => fun
  | [d1, d2, d3] => { results := [.lit (.bool true)], args := [d1, d2, d3] }
  | _ => none }
def piecesDrainRow : OpenClaim := { program := "ytcmoldondflilaa", sum := "999b7bb39d9b40a0d662aa3f795c9198b92b821487d77403604ff3bc2a2e7ec7", func := "quillpen/quillpenlaw11.PiecesDrain", spec := "piecesDrain", inPlace := ["internal/abi.NoEscape", "internal/bytealg.IndexByteString"], unfollowed := true, recurses := true, apart := false }
def PiecesDrainSaid : Prop := piecesDrainRow.holds Try.pinned (OpenSpec.ofChange piecesDrainSpec)

/-- ITS FALSE NEIGHBOUR: 'it returns false'. Refute it at one input. -/
def piecesDrainWrong : ChangeSpec := { name := "piecesDrain", fn := fun _ => fun
  | [d1, d2, d3] => { results := [.lit (.bool false)], args := [d1, d2, d3] }
  | _ => none }
def PiecesDrainWrongFalsely : Prop := piecesDrainRow.holds Try.pinned (OpenSpec.ofChange piecesDrainWrong)

/- THE SECOND FORM. 'bulk': how many values and letters a reading holds, each counted each time it is reached (what is shared counts as often as it is met; a slice's spare places count too). A statement '..UptoSaid' is the law's where the arguments, and the package variables that the reading takes, are together of bulk at most 1048576: NARROWER than '..Said'. Prove '..Said' where nothing that the law and all that it calls make is longer than what came in: it says more and counts as full. Else prove '..UptoSaid'. A law counts once. -/
mutual
def uptoBulk {H : Type} : DataW H → Nat
  | .lit (.string bytes) => bytes.length + 1
  | .lit _ => 1
  | .nil => 1
  | .ptr d => uptoBulk d + 1
  | .slice elems spare => uptoBulkAll elems + uptoBulkAll spare + 1
  | .agg parts => uptoBulkAll parts + 1
  | .iface _ d => uptoBulk d + 1
  | .map entries => uptoBulkEntries entries + 1
  | .held _ => 1
def uptoBulkAll {H : Type} : List (DataW H) → Nat
  | [] => 0
  | d :: r => uptoBulk d + uptoBulkAll r
def uptoBulkEntries {H : Type} : List (Lit × DataW H) → Nat
  | [] => 0
  | x :: r => uptoBulkEntry x + uptoBulkEntries r
def uptoBulkEntry {H : Type} : Lit × DataW H → Nat
  | (.string bytes, d) => bytes.length + uptoBulk d + 1
  | (_, d) => uptoBulk d + 1
 end
def uptoSmall : (H : Type) → List (DataW H) → Bool := fun _ ds => decide (uptoBulkAll ds ≤ 1048576)
def OpenSpec.upto (s : _root_.Go.ChangeSpec) : _root_.Go.OpenSpec := { _root_.Go.OpenSpec.ofChange s with cond := some uptoSmall }

/-- 'quillpenlaw10.WriteLines', WHERE WHAT IT READS IS OF BULK AT MOST 1048576: true; the input reads as it did. -/
def writeLinesUptoRow : OpenClaim := { program := "ytcmoldondflilaa", sum := "999b7bb39d9b40a0d662aa3f795c9198b92b821487d77403604ff3bc2a2e7ec7", func := "quillpen/quillpenlaw10.WriteLines", spec := "writeLines", inPlace := ["internal/abi.NoEscape", "internal/bytealg.IndexByteString"], apart := false, narrowed := true }
def WriteLinesUptoSaid : Prop := writeLinesUptoRow.holds Try.pinned (OpenSpec.upto writeLinesSpec)

/-- 'quillpenlaw10.WriteReads', WHERE WHAT IT READS IS OF BULK AT MOST 1048576: true; the input reads as it did. -/
def writeReadsUptoRow : OpenClaim := { program := "ytcmoldondflilaa", sum := "999b7bb39d9b40a0d662aa3f795c9198b92b821487d77403604ff3bc2a2e7ec7", func := "quillpen/quillpenlaw10.WriteReads", spec := "writeReads", inPlace := ["internal/abi.NoEscape", "internal/bytealg.IndexByteString"], apart := false, narrowed := true }
def WriteReadsUptoSaid : Prop := writeReadsUptoRow.holds Try.pinned (OpenSpec.upto writeReadsSpec)

/-- 'quillpenlaw10.WriteLess', WHERE WHAT IT READS IS OF BULK AT MOST 1048576: true; the input reads as it did. -/
def writeLessUptoRow : OpenClaim := { program := "ytcmoldondflilaa", sum := "999b7bb39d9b40a0d662aa3f795c9198b92b821487d77403604ff3bc2a2e7ec7", func := "quillpen/quillpenlaw10.WriteLess", spec := "writeLess", inPlace := ["internal/abi.NoEscape", "internal/bytealg.IndexByteString"], apart := false, narrowed := true }
def WriteLessUptoSaid : Prop := writeLessUptoRow.holds Try.pinned (OpenSpec.upto writeLessSpec)

/-- 'quillpenlaw10.WriteTables', WHERE WHAT IT READS IS OF BULK AT MOST 1048576: true; the input reads as it did. -/
def writeTablesUptoRow : OpenClaim := { program := "ytcmoldondflilaa", sum := "999b7bb39d9b40a0d662aa3f795c9198b92b821487d77403604ff3bc2a2e7ec7", func := "quillpen/quillpenlaw10.WriteTables", spec := "writeTables", inPlace := ["internal/abi.NoEscape", "internal/bytealg.IndexByteString"], unfollowed := true, recurses := true, apart := false, narrowed := true }
def WriteTablesUptoSaid : Prop := writeTablesUptoRow.holds Try.pinned (OpenSpec.upto writeTablesSpec)

/-- 'quillpenlaw11.PiecesOwn', WHERE WHAT IT READS IS OF BULK AT MOST 1048576: true; the input reads as it did. -/
def piecesOwnUptoRow : OpenClaim := { program := "ytcmoldondflilaa", sum := "999b7bb39d9b40a0d662aa3f795c9198b92b821487d77403604ff3bc2a2e7ec7", func := "quillpen/quillpenlaw11.PiecesOwn", spec := "piecesOwn", inPlace := ["internal/abi.NoEscape", "internal/bytealg.IndexByteString"], apart := false, narrowed := true }
def PiecesOwnUptoSaid : Prop := piecesOwnUptoRow.holds Try.pinned (OpenSpec.upto piecesOwnSpec)

/-- 'quillpenlaw11.PiecesText', WHERE WHAT IT READS IS OF BULK AT MOST 1048576: true; the input reads as it did. -/
def piecesTextUptoRow : OpenClaim := { program := "ytcmoldondflilaa", sum := "999b7bb39d9b40a0d662aa3f795c9198b92b821487d77403604ff3bc2a2e7ec7", func := "quillpen/quillpenlaw11.PiecesText", spec := "piecesText", inPlace := ["internal/abi.NoEscape", "internal/bytealg.IndexByteString"], apart := false, narrowed := true }
def PiecesTextUptoSaid : Prop := piecesTextUptoRow.holds Try.pinned (OpenSpec.upto piecesTextSpec)

/-- 'quillpenlaw11.PiecesPlays', WHERE WHAT IT READS IS OF BULK AT MOST 1048576: true; the input reads as it did. -/
def piecesPlaysUptoRow : OpenClaim := { program := "ytcmoldondflilaa", sum := "999b7bb39d9b40a0d662aa3f795c9198b92b821487d77403604ff3bc2a2e7ec7", func := "quillpen/quillpenlaw11.PiecesPlays", spec := "piecesPlays", inPlace := ["internal/abi.NoEscape", "internal/bytealg.IndexByteString"], apart := false, narrowed := true }
def PiecesPlaysUptoSaid : Prop := piecesPlaysUptoRow.holds Try.pinned (OpenSpec.upto piecesPlaysSpec)

/-- 'quillpenlaw11.PiecesDrain', WHERE WHAT IT READS IS OF BULK AT MOST 1048576: true; the input reads as it did. -/
def piecesDrainUptoRow : OpenClaim := { program := "ytcmoldondflilaa", sum := "999b7bb39d9b40a0d662aa3f795c9198b92b821487d77403604ff3bc2a2e7ec7", func := "quillpen/quillpenlaw11.PiecesDrain", spec := "piecesDrain", inPlace := ["internal/abi.NoEscape", "internal/bytealg.IndexByteString"], unfollowed := true, recurses := true, apart := false, narrowed := true }
def PiecesDrainUptoSaid : Prop := piecesDrainUptoRow.holds Try.pinned (OpenSpec.upto piecesDrainSpec)

end Rows
end Go.Proofs.Ytcmoldondflilaa
