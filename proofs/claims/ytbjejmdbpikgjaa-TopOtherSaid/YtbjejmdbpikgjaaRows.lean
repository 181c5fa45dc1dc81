/-
  No cell of these rows narrows 'for every input' (looked for: loops, veiled, ifaces, maps, wideKeys, modest, calm, conditions, laid).
  DERIVED. THE GIVEN ROWS OF THIS SEAT. 5 by the template 'for every input the law returns true; each argument reads behind the call as it read before'; 0 by the template 'total and deterministic' (their statements: YtbjejmdbpikgjaaTotals.lean).
  GIVEN WITH THE SEED: the statements are not yours to turn. If you find one false, say at which input.
  Laid BY PROGRAM, IN A SANDBOX (cutbox-rows.mjs): the forced cells as the released guide's own fill.sh prints them over the translation bc7f388ebf447f2f… (all of the seat's roots in one cut). By AI agents, Wed Nov 11 2026. No macro, syntax, notation, axiom, sorry.
-/
import Derived.Test.YtbjejmdbpikgjaaChecked
import GoSem.Claim
import GoSem.ClaimJoined
import GoSem.ClaimMapViews
import Derived.JoinedTies
import Derived.KernelRfl
namespace Go.Proofs.Ytbjejmdbpikgjaa
/- THE CELL 'sum', in the pinned program and in every row, IS THE sha256 OF THE DUMP (.gsa) THAT YtbjejmdbpikgjaaProg.lean LOADS. Nothing in Lean hashes anything: it is a label: what it is worth is what the hold of that sum in a sandbox is worth. -/
noncomputable def Try.pinned : Pinned := { name := "ytbjejmdbpikgjaa", sum := "bc7f388ebf447f2f7a998105b120e6d3a0b61931106c12091a6b48b35eeddcb2", checked := Try.checked }
namespace Rows
def none {H : Type} : Left H := { results := [], args := [] }

/-- 'quillpentop.TopSticky': WHATEVER THE INPUT: true; the input reads as it did. -/
def topStickySpec : ChangeSpec := { name := "topSticky", fn := fun _ => fun
  | [d1, d2, d3] => { results := [.lit (.bool true)], args := [d1, d2, d3] }
  | _ => none }
def topStickyRow : OpenClaim := { program := "ytbjejmdbpikgjaa", sum := "bc7f388ebf447f2f7a998105b120e6d3a0b61931106c12091a6b48b35eeddcb2", func := "quillpen/quillpentop.TopSticky", spec := "topSticky", unfollowed := true, recurses := true, apart := false }
def TopStickySaid : Prop := topStickyRow.holds Try.pinned (OpenSpec.ofChange topStickySpec)

/-- ITS FALSE NEIGHBOUR: 'it returns false'. Refute it at one input. -/
def topStickyWrong : ChangeSpec := { name := "topSticky", fn := fun _ => fun
  | [d1, d2, d3] => { results := [.lit (.bool false)], args := [d1, d2, d3] }
  | _ => none }
def TopStickyWrongFalsely : Prop := topStickyRow.holds Try.pinned (OpenSpec.ofChange topStickyWrong)

/-- 'quillpentop.TopReads': WHATEVER THE INPUT: true; the input reads as it did. -/
def topReadsSpec : ChangeSpec := { name := "topReads", fn := fun _ => fun
  | [d1, d2, d3] => { results := [.lit (.bool true)], args := [d1, d2, d3] }
  | _ => none }
def topReadsRow : OpenClaim := { program := "ytbjejmdbpikgjaa", sum := "bc7f388ebf447f2f7a998105b120e6d3a0b61931106c12091a6b48b35eeddcb2", func := "quillpen/quillpentop.TopReads", spec := "topReads", unfollowed := true, recurses := true, apart := false }
def TopReadsSaid : Prop := topReadsRow.holds Try.pinned (OpenSpec.ofChange topReadsSpec)

/-- ITS FALSE NEIGHBOUR: 'it returns false'. Refute it at one input. -/
def topReadsWrong : ChangeSpec := { name := "topReads", fn := fun _ => fun
  | [d1, d2, d3] => { results := [.lit (.bool false)], args := [d1, d2, d3] }
  | _ => none }
def TopReadsWrongFalsely : Prop := topReadsRow.holds Try.pinned (OpenSpec.ofChange topReadsWrong)

/-- 'quillpentop.TopChunks': WHATEVER THE INPUT: true; the input reads as it did. -/
def topChunksSpec : ChangeSpec := { name := "topChunks", fn := fun _ => fun
  | [d1, d2, d3] => { results := [.lit (.bool true)], args := [d1, d2, d3] }
  | _ => none }
def topChunksRow : OpenClaim := { program := "ytbjejmdbpikgjaa", sum := "bc7f388ebf447f2f7a998105b120e6d3a0b61931106c12091a6b48b35eeddcb2", func := "quillpen/quillpentop.TopChunks", spec := "topChunks", unfollowed := true, recurses := true, apart := false }
def TopChunksSaid : Prop := topChunksRow.holds Try.pinned (OpenSpec.ofChange topChunksSpec)

/-- ITS FALSE NEIGHBOUR: 'it returns false'. Refute it at one input. -/
def topChunksWrong : ChangeSpec := { name := "topChunks", fn := fun _ => fun
  | [d1, d2, d3] => { results := [.lit (.bool false)], args := [d1, d2, d3] }
  | _ => none }
def TopChunksWrongFalsely : Prop := topChunksRow.holds Try.pinned (OpenSpec.ofChange topChunksWrong)

/-- 'quillpentop.TopOther': WHATEVER THE INPUT: true; the input reads as it did. -/
def topOtherSpec : ChangeSpec := { name := "topOther", fn := fun _ => fun
  | [d1, d2, d3] => { results := [.lit (.bool true)], args := [d1, d2, d3] }
  | _ => none }
def topOtherRow : OpenClaim := { program := "ytbjejmdbpikgjaa", sum := "bc7f388ebf447f2f7a998105b120e6d3a0b61931106c12091a6b48b35eeddcb2", func := "quillpen/quillpentop.TopOther", spec := "topOther", unfollowed := true, recurses := true, apart := false }
def TopOtherSaid : Prop := topOtherRow.holds Try.pinned (OpenSpec.ofChange topOtherSpec)

/-- ITS FALSE NEIGHBOUR: 'it returns false'. Refute it at one input. -/
def topOtherWrong : ChangeSpec := { name := "topOther", fn := fun _ => fun
  | [d1, d2, d3] => { results := [.lit (.bool false)], args := [d1, d2, d3] }
  | _ => none }
def TopOtherWrongFalsely : Prop := topOtherRow.holds Try.pinned (OpenSpec.ofChange topOtherWrong)

/-- 'quillpentop.TopBack': WHATEVER THE INPUT: true; the input reads as it did. -/
def topBackSpec : ChangeSpec := { name := "topBack", fn := fun _ => fun
  | [d1, d2, d3] => { results := [.lit (.bool true)], args := [d1, d2, d3] }
  | _ => none }
def topBackRow : OpenClaim := { program := "ytbjejmdbpikgjaa", sum := "bc7f388ebf447f2f7a998105b120e6d3a0b61931106c12091a6b48b35eeddcb2", func := "quillpen/quillpentop.TopBack", spec := "topBack", inPlace := ["internal/abi.NoEscape", "internal/bytealg.IndexByteString"], unfollowed := true, recurses := true, apart := false }
def TopBackSaid : Prop := topBackRow.holds Try.pinned (OpenSpec.ofChange topBackSpec)

/-- ITS FALSE NEIGHBOUR: 'it returns false'. Refute it at one input. -/
def topBackWrong : ChangeSpec := { name := "topBack", fn := fun _ => fun
  | [d1, d2, d3] => { results := [.lit (.bool false)], args := [d1, d2, d3] }
  | _ => none }
def TopBackWrongFalsely : Prop := topBackRow.holds Try.pinned (OpenSpec.ofChange topBackWrong)

/- THE SECOND FORM. 'bulk': how many values and letters a reading holds, each counted each time it is reached (what is shared counts as often as it is met; a slice's spare places count too). A statement '..UptoSaid' is the law's where the arguments, and the package variables that the reading takes, are together of bulk at most 1048576: NARROWER than '..Said'. Prove '..Said' where nothing that the law and all that it calls make is longer than what came in: it says more and counts as full. Else prove '..UptoSaid'. A law counts once. -/
mutual
def uptoBulk {H : Type} : DataW H → Nat
  | .lit (.string bytes) => bytes.length + 1
  | .lit _ => 1
  | .nil => 1
  | .ptr d => uptoBulk d + 1
  | .slice elems spare => uptoBulkAll elems + uptoBulkAll spare + 1
  | .agg parts => uptoBulkAll parts + 1
  | .iface _ d => uptoBulk d + 1
  | .map entries => uptoBulkEntries entries + 1
  | .held _ => 1
def uptoBulkAll {H : Type} : List (DataW H) → Nat
  | [] => 0
  | d :: r => uptoBulk d + uptoBulkAll r
def uptoBulkEntries {H : Type} : List (Lit × DataW H) → Nat
  | [] => 0
  | x :: r => uptoBulkEntry x + uptoBulkEntries r
def uptoBulkEntry {H : Type} : Lit × DataW H → Nat
  | (.string bytes, d) => bytes.length + uptoBulk d + 1
  | (_, d) => uptoBulk d + 1
 end
def uptoSmall : (H : Type) → List (DataW H) → Bool := fun _ ds => decide (uptoBulkAll ds ≤ 1048576)
def OpenSpec.upto (s : _root_.Go.ChangeSpec) : _root_.Go.OpenSpec := { _root_.Go.OpenSpec.ofChange s with cond := some uptoSmall }

/-- 'quillpentop.TopSticky', WHERE WHAT IT READS IS OF BULK AT MOST 1048576: true; the input reads as it did. -/
def topStickyUptoRow : OpenClaim := { program := "ytbjejmdbpikgjaa", sum := "bc7f388ebf447f2f7a998105b120e6d3a0b61931106c12091a6b48b35eeddcb2", func := "quillpen/quillpentop.TopSticky", spec := "topSticky", unfollowed := true, recurses := true, apart := false, narrowed := true }
def TopStickyUptoSaid : Prop := topStickyUptoRow.holds Try.pinned (OpenSpec.upto topStickySpec)

/-- 'quillpentop.TopReads', WHERE WHAT IT READS IS OF BULK AT MOST 1048576: true; the input reads as it did. -/
def topReadsUptoRow : OpenClaim := { program := "ytbjejmdbpikgjaa", sum := "bc7f388ebf447f2f7a998105b120e6d3a0b61931106c12091a6b48b35eeddcb2", func := "quillpen/quillpentop.TopReads", spec := "topReads", unfollowed := true, recurses := true, apart := false, narrowed := true }
def TopReadsUptoSaid : Prop := topReadsUptoRow.holds Try.pinned (OpenSpec.upto topReadsSpec)

/-- 'quillpentop.TopChunks', WHERE WHAT IT READS IS OF BULK AT MOST 1048576: true; the input reads as it did. -/
def topChunksUptoRow : OpenClaim := { program := "ytbjejmdbpikgjaa", sum := "bc7f388ebf447f2f7a998105b120e6d3a0b61931106c12091a6b48b35eeddcb2", func := "quillpen/quillpentop.TopChunks", spec := "topChunks", unfollowed := true, recurses := true, apart := false, narrowed := true }
def TopChunksUptoSaid : Prop := topChunksUptoRow.holds Try.pinned (OpenSpec.upto topChunksSpec)

/-- 'quillpentop.TopOther', WHERE WHAT IT READS IS OF BULK AT MOST 1048576: true; the input reads as it did. -/
def topOtherUptoRow : OpenClaim := { program := "ytbjejmdbpikgjaa", sum := "bc7f388ebf447f2f7a998105b120e6d3a0b61931106c12091a6b48b35eeddcb2", func := "quillpen/quillpentop.TopOther", spec := "topOther", unfollowed := true, recurses := true, apart := false, narrowed := true }
def TopOtherUptoSaid : Prop := topOtherUptoRow.holds Try.pinned (OpenSpec.upto topOtherSpec)

/-- 'quillpentop.TopBack', WHERE WHAT IT READS IS OF BULK AT MOST 1048576: true; the input reads as it did. -/
def topBackUptoRow : OpenClaim := { program := "ytbjejmdbpikgjaa", sum := "bc7f388ebf447f2f7a998105b120e6d3a0b61931106c12091a6b48b35eeddcb2", func := "quillpen/quillpentop.TopBack", spec := "topBack", inPlace := ["internal/abi.NoEscape", "internal/bytealg.IndexByteString"], unfollowed := true, recurses := true, apart := false, narrowed := true }
def TopBackUptoSaid : Prop := topBackUptoRow.holds Try.pinned (OpenSpec.upto topBackSpec)

end Rows
end Go.Proofs.Ytbjejmdbpikgjaa
