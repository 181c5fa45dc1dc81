/-
  No cell of these rows narrows 'for every input' (looked for: loops, veiled, ifaces, maps, wideKeys, modest, calm, conditions, laid).
  DERIVED. THE GIVEN ROWS OF THIS SEAT. 8 by the template 'for every input the law returns true; each argument reads behind the call as it read before'; 0 by the template 'total and deterministic' (their statements: YtpbmengaaagbkaaTotals.lean).
  GIVEN WITH THE SEED: the statements are not yours to turn. If you find one false, say at which input.
  Laid BY PROGRAM, IN A SANDBOX (cutbox-rows.mjs): the forced cells as the released guide's own fill.sh prints them over the translation e434b48889065f9f… (all of the seat's roots in one cut). By AI agents, Wed Nov 11 2026. No macro, syntax, notation, axiom, sorry.
-/
import Derived.Test.YtpbmengaaagbkaaChecked
import GoSem.Claim
import GoSem.ClaimJoined
import GoSem.ClaimMapViews
import Derived.JoinedTies
import Derived.KernelRfl
namespace Go.Proofs.Ytpbmengaaagbkaa
/- THE CELL 'sum', in the pinned program and in every row, IS THE sha256 OF THE DUMP (.gsa) THAT YtpbmengaaagbkaaProg.lean LOADS. Nothing in Lean hashes anything: it is a label: what it is worth is what the hold of that sum in a sandbox is worth. -/
noncomputable def Try.pinned : Pinned := { name := "ytpbmengaaagbkaa", sum := "e434b48889065f9f5f6441cda6cab7dc84a723a46f73aeb403af6803b142be57", checked := Try.checked }
namespace Rows
def none {H : Type} : Left H := { results := [], args := [] }

/-- 'quillpenlaw08.NeedTells': WHATEVER THE INPUT: true; the input reads as it did. -/
def needTellsSpec : ChangeSpec := { name := "needTells", fn := fun _ => fun
  | [d1, d2, d3] => { results := [.lit (.bool true)], args := [d1, d2, d3] }
  | _ => none }
def needTellsRow : OpenClaim := { program := "ytpbmengaaagbkaa", sum := "e434b48889065f9f5f6441cda6cab7dc84a723a46f73aeb403af6803b142be57", func := "quillpen/quillpenlaw08.NeedTells", spec := "needTells", inPlace := ["internal/bytealg.IndexByteString"], apart := false }
def NeedTellsSaid : Prop := needTellsRow.holds Try.pinned (OpenSpec.ofChange needTellsSpec)

/-- ITS FALSE NEIGHBOUR: 'it returns false'. Refute it at one input. -/
def needTellsWrong : ChangeSpec := { name := "needTells", fn := fun _ => fun
  | [d1, d2, d3] => { results := [.lit (.bool false)], args := [d1, d2, d3] }
  | _ => none }
def NeedTellsWrongFalsely : Prop := needTellsRow.holds Try.pinned (OpenSpec.ofChange needTellsWrong)

/-- 'quillpenlaw08.NeedFields': WHATEVER THE INPUT: true; the input reads as it did. -/
def needFieldsSpec : ChangeSpec := { name := "needFields", fn := fun _ => fun
  | [d1, d2, d3] => { results := [.lit (.bool true)], args := [d1, d2, d3] }
  | _ => none }
def needFieldsRow : OpenClaim := { program := "ytpbmengaaagbkaa", sum := "e434b48889065f9f5f6441cda6cab7dc84a723a46f73aeb403af6803b142be57", func := "quillpen/quillpenlaw08.NeedFields", spec := "needFields", inPlace := ["internal/bytealg.IndexByteString"], apart := false }
def NeedFieldsSaid : Prop := needFieldsRow.holds Try.pinned (OpenSpec.ofChange needFieldsSpec)

/-- ITS FALSE NEIGHBOUR: 'it returns false'. Refute it at one input. -/
def needFieldsWrong : ChangeSpec := { name := "needFields", fn := fun _ => fun
  | [d1, d2, d3] => { results := [.lit (.bool false)], args := [d1, d2, d3] }
  | _ => none }
def NeedFieldsWrongFalsely : Prop := needFieldsRow.holds Try.pinned (OpenSpec.ofChange needFieldsWrong)

/-- 'quillpenlaw08.NeedPlain': WHATEVER THE INPUT: true; the input reads as it did. -/
def needPlainSpec : ChangeSpec := { name := "needPlain", fn := fun _ => fun
  | [d1, d2] => { results := [.lit (.bool true)], args := [d1, d2] }
  | _ => none }
def needPlainRow : OpenClaim := { program := "ytpbmengaaagbkaa", sum := "e434b48889065f9f5f6441cda6cab7dc84a723a46f73aeb403af6803b142be57", func := "quillpen/quillpenlaw08.NeedPlain", spec := "needPlain", inPlace := ["internal/bytealg.IndexByteString"], apart := false }
def NeedPlainSaid : Prop := needPlainRow.holds Try.pinned (OpenSpec.ofChange needPlainSpec)

/-- ITS FALSE NEIGHBOUR: 'it returns false'. Refute it at one input. -/
def needPlainWrong : ChangeSpec := { name := "needPlain", fn := fun _ => fun
  | [d1, d2] => { results := [.lit (.bool false)], args := [d1, d2] }
  | _ => none }
def NeedPlainWrongFalsely : Prop := needPlainRow.holds Try.pinned (OpenSpec.ofChange needPlainWrong)

/-- 'quillpenlaw08.NeedMust': WHATEVER THE INPUT: true; the input reads as it did. -/
def needMustSpec : ChangeSpec := { name := "needMust", fn := fun _ => fun
  | [d1, d2] => { results := [.lit (.bool true)], args := [d1, d2] }
  | _ => none }
def needMustRow : OpenClaim := { program := "ytpbmengaaagbkaa", sum := "e434b48889065f9f5f6441cda6cab7dc84a723a46f73aeb403af6803b142be57", func := "quillpen/quillpenlaw08.NeedMust", spec := "needMust", inPlace := ["internal/bytealg.IndexByteString"], apart := false }
def NeedMustSaid : Prop := needMustRow.holds Try.pinned (OpenSpec.ofChange needMustSpec)

/-- ITS FALSE NEIGHBOUR: 'it returns false'. Refute it at one input. -/
def needMustWrong : ChangeSpec := { name := "needMust", fn := fun _ => fun
  | [d1, d2] => { results := [.lit (.bool false)], args := [d1, d2] }
  | _ => none }
def NeedMustWrongFalsely : Prop := needMustRow.holds Try.pinned (OpenSpec.ofChange needMustWrong)

/-- 'quillpenlaw09.QuoteReads': WHATEVER THE INPUT: true; the input reads as it did. -/
def quoteReadsSpec : ChangeSpec := { name := "quoteReads", fn := fun _ => fun
  | [d1, d2] => { results := [.lit (.bool true)], args := [d1, d2] }
  | _ => none }
def quoteReadsRow : OpenClaim := { program := "ytpbmengaaagbkaa", sum := "e434b48889065f9f5f6441cda6cab7dc84a723a46f73aeb403af6803b142be57", func := "quillpen/quillpenlaw09.QuoteReads", spec := "quoteReads", inPlace := ["internal/abi.NoEscape"], apart := false }
def QuoteReadsSaid : Prop := quoteReadsRow.holds Try.pinned (OpenSpec.ofChange quoteReadsSpec)

/-- ITS FALSE NEIGHBOUR: 'it returns false'. Refute it at one input. -/
def quoteReadsWrong : ChangeSpec := { name := "quoteReads", fn := fun _ => fun
  | [d1, d2] => { results := [.lit (.bool false)], args := [d1, d2] }
  | _ => none }
def QuoteReadsWrongFalsely : Prop := quoteReadsRow.holds Try.pinned (OpenSpec.ofChange quoteReadsWrong)

/-- 'quillpenlaw09.QuoteBack': WHATEVER THE INPUT: true; the input reads as it did. -/
def quoteBackSpec : ChangeSpec := { name := "quoteBack", fn := fun _ => fun
  | [d1, d2, d3] => { results := [.lit (.bool true)], args := [d1, d2, d3] }
  | _ => none }
def quoteBackRow : OpenClaim := { program := "ytpbmengaaagbkaa", sum := "e434b48889065f9f5f6441cda6cab7dc84a723a46f73aeb403af6803b142be57", func := "quillpen/quillpenlaw09.QuoteBack", spec := "quoteBack", inPlace := ["internal/abi.NoEscape", "internal/bytealg.IndexByteString"], apart := false }
def QuoteBackSaid : Prop := quoteBackRow.holds Try.pinned (OpenSpec.ofChange quoteBackSpec)

/-- ITS FALSE NEIGHBOUR: 'it returns false'. Refute it at one input. -/
def quoteBackWrong : ChangeSpec := { name := "quoteBack", fn := fun _ => fun
  | [d1, d2, d3] => { results := [.lit (.bool false)], args := [d1, d2, d3] }
  | _ => none }
def QuoteBackWrongFalsely : Prop := quoteBackRow.holds Try.pinned (OpenSpec.ofChange quoteBackWrong)

/-- 'quillpenlaw09.QuoteUnlike': WHATEVER THE INPUT: true; the input reads as it did. -/
def quoteUnlikeSpec : ChangeSpec := { name := "quoteUnlike", fn := fun _ => fun
  | [d1, d2, d3] => { results := [.lit (.bool true)], args := [d1, d2, d3] }
  | _ => none }
def quoteUnlikeRow : OpenClaim := { program := "ytpbmengaaagbkaa", sum := "e434b48889065f9f5f6441cda6cab7dc84a723a46f73aeb403af6803b142be57", func := "quillpen/quillpenlaw09.QuoteUnlike", spec := "quoteUnlike", inPlace := ["internal/abi.NoEscape", "internal/bytealg.IndexByteString"], apart := false }
def QuoteUnlikeSaid : Prop := quoteUnlikeRow.holds Try.pinned (OpenSpec.ofChange quoteUnlikeSpec)

/-- ITS FALSE NEIGHBOUR: 'it returns false'. Refute it at one input. -/
def quoteUnlikeWrong : ChangeSpec := { name := "quoteUnlike", fn := fun _ => fun
  | [d1, d2, d3] => { results := [.lit (.bool false)], args := [d1, d2, d3] }
  | _ => none }
def QuoteUnlikeWrongFalsely : Prop := quoteUnlikeRow.holds Try.pinned (OpenSpec.ofChange quoteUnlikeWrong)

/-- 'quillpenlaw09.QuoteWrites': WHATEVER THE INPUT: true; the input reads as it did. -/
def quoteWritesSpec : ChangeSpec := { name := "quoteWrites", fn := fun _ => fun
  | [d1, d2, d3] => { results := [.lit (.bool true)], args := [d1, d2, d3] }
  | _ => none }
def quoteWritesRow : OpenClaim := { program := "ytpbmengaaagbkaa", sum := "e434b48889065f9f5f6441cda6cab7dc84a723a46f73aeb403af6803b142be57", func := "quillpen/quillpenlaw09.QuoteWrites", spec := "quoteWrites", inPlace := ["internal/abi.NoEscape", "internal/bytealg.IndexByteString"], apart := false }
def QuoteWritesSaid : Prop := quoteWritesRow.holds Try.pinned (OpenSpec.ofChange quoteWritesSpec)

/-- ITS FALSE NEIGHBOUR: 'it returns false'. Refute it at one input. -/
def quoteWritesWrong : ChangeSpec := { name := "quoteWrites", fn := fun _ => fun
  | [d1, d2, d3] => { results := [.lit (.bool false)], args := [d1, d2, d3] }
  | _ => none }
def QuoteWritesWrongFalsely : Prop := quoteWritesRow.holds Try.pinned (OpenSpec.ofChange quoteWritesWrong)

/- THE SECOND FORM. 'bulk': how many values and letters a reading holds, each counted each time it is reached (what is shared counts as often as it is met; a slice's spare places count too). A statement '..UptoSaid' is the law's where the arguments, and the package variables that the reading takes, are together of bulk at most 1048576: NARROWER than '..Said'. Prove '..Said' where nothing that the law and all that it calls make is longer than what came in: it says more and counts as full. Else prove '..UptoSaid'. A law counts once. -/
mutual
def uptoBulk {H : Type} : DataW H → Nat
  | .lit (.string bytes) => bytes.length + 1
  | .lit _ => 1
  | .nil => 1
  | .ptr d => uptoBulk d + 1
  | .slice elems spare => uptoBulkAll elems + uptoBulkAll spare + 1
  | .agg parts => uptoBulkAll parts + 1
  | .iface _ d => uptoBulk d + 1
  | .map entries => uptoBulkEntries entries + 1
  | .held _ => 1
def uptoBulkAll {H : Type} : List (DataW H) → Nat
  | [] => 0
  | d :: r => uptoBulk d + uptoBulkAll r
def uptoBulkEntries {H : Type} : List (Lit × DataW H) → Nat
  | [] => 0
  | x :: r => uptoBulkEntry x + uptoBulkEntries r
def uptoBulkEntry {H : Type} : Lit × DataW H → Nat
  | (.string bytes, d) => bytes.length + uptoBulk d + 1
  | (_, d) => uptoBulk d + 1
 end
def uptoSmall : (H : Type) → List (DataW H) → Bool := fun _ ds => decide (uptoBulkAll ds ≤ 1048576)
def OpenSpec.upto (s : _root_.Go.ChangeSpec) : _root_.Go.OpenSpec := { _root_.Go.OpenSpec.ofChange s with cond := some uptoSmall }

/-- 'quillpenlaw08.NeedTells', WHERE WHAT IT READS IS OF BULK AT MOST 1048576: true; the input reads as it did. -/
def needTellsUptoRow : OpenClaim := { program := "ytpbmengaaagbkaa", sum := "e434b48889065f9f5f6441cda6cab7dc84a723a46f73aeb403af6803b142be57", func := "quillpen/quillpenlaw08.NeedTells", spec := "needTells", inPlace := ["internal/bytealg.IndexByteString"], apart := false, narrowed := true }
def NeedTellsUptoSaid : Prop := needTellsUptoRow.holds Try.pinned (OpenSpec.upto needTellsSpec)

/-- 'quillpenlaw08.NeedFields', WHERE WHAT IT READS IS OF BULK AT MOST 1048576: true; the input reads as it did. -/
def needFieldsUptoRow : OpenClaim := { program := "ytpbmengaaagbkaa", sum := "e434b48889065f9f5f6441cda6cab7dc84a723a46f73aeb403af6803b142be57", func := "quillpen/quillpenlaw08.NeedFields", spec := "needFields", inPlace := ["internal/bytealg.IndexByteString"], apart := false, narrowed := true }
def NeedFieldsUptoSaid : Prop := needFieldsUptoRow.holds Try.pinned (OpenSpec.upto needFieldsSpec)

/-- 'quillpenlaw08.NeedPlain', WHERE WHAT IT READS IS OF BULK AT MOST 1048576: true; the input reads as it did. -/
def needPlainUptoRow : OpenClaim := { program := "ytpbmengaaagbkaa", sum := "e434b48889065f9f5f6441cda6cab7dc84a723a46f73aeb403af6803b142be57", func := "quillpen/quillpenlaw08.NeedPlain", spec := "needPlain", inPlace := ["internal/bytealg.IndexByteString"], apart := false, narrowed := true }
def NeedPlainUptoSaid : Prop := needPlainUptoRow.holds Try.pinned (OpenSpec.upto needPlainSpec)

/-- 'quillpenlaw08.NeedMust', WHERE WHAT IT READS IS OF BULK AT MOST 1048576: true; the input reads as it did. -/
def needMustUptoRow : OpenClaim := { program := "ytpbmengaaagbkaa", sum := "e434b48889065f9f5f6441cda6cab7dc84a723a46f73aeb403af6803b142be57", func := "quillpen/quillpenlaw08.NeedMust", spec := "needMust", inPlace := ["internal/bytealg.IndexByteString"], apart := false, narrowed := true }
def NeedMustUptoSaid : Prop := needMustUptoRow.holds Try.pinned (OpenSpec.upto needMustSpec)

/-- 'quillpenlaw09.QuoteReads', WHERE WHAT IT READS IS OF BULK AT MOST 1048576: true; the input reads as it did. -/
def quoteReadsUptoRow : OpenClaim := { program := "ytpbmengaaagbkaa", sum := "e434b48889065f9f5f6441cda6cab7dc84a723a46f73aeb403af6803b142be57", func := "quillpen/quillpenlaw09.QuoteReads", spec := "quoteReads", inPlace := ["internal/abi.NoEscape"], apart := false, narrowed := true }
def QuoteReadsUptoSaid : Prop := quoteReadsUptoRow.holds Try.pinned (OpenSpec.upto quoteReadsSpec)

/-- 'quillpenlaw09.QuoteBack', WHERE WHAT IT READS IS OF BULK AT MOST 1048576: true; the input reads as it did. -/
def quoteBackUptoRow : OpenClaim := { program := "ytpbmengaaagbkaa", sum := "e434b48889065f9f5f6441cda6cab7dc84a723a46f73aeb403af6803b142be57", func := "quillpen/quillpenlaw09.QuoteBack", spec := "quoteBack", inPlace := ["internal/abi.NoEscape", "internal/bytealg.IndexByteString"], apart := false, narrowed := true }
def QuoteBackUptoSaid : Prop := quoteBackUptoRow.holds Try.pinned (OpenSpec.upto quoteBackSpec)

/-- 'quillpenlaw09.QuoteUnlike', WHERE WHAT IT READS IS OF BULK AT MOST 1048576: true; the input reads as it did. -/
def quoteUnlikeUptoRow : OpenClaim := { program := "ytpbmengaaagbkaa", sum := "e434b48889065f9f5f6441cda6cab7dc84a723a46f73aeb403af6803b142be57", func := "quillpen/quillpenlaw09.QuoteUnlike", spec := "quoteUnlike", inPlace := ["internal/abi.NoEscape", "internal/bytealg.IndexByteString"], apart := false, narrowed := true }
def QuoteUnlikeUptoSaid : Prop := quoteUnlikeUptoRow.holds Try.pinned (OpenSpec.upto quoteUnlikeSpec)

/-- 'quillpenlaw09.QuoteWrites', WHERE WHAT IT READS IS OF BULK AT MOST 1048576: true; the input reads as it did. -/
def quoteWritesUptoRow : OpenClaim := { program := "ytpbmengaaagbkaa", sum := "e434b48889065f9f5f6441cda6cab7dc84a723a46f73aeb403af6803b142be57", func := "quillpen/quillpenlaw09.QuoteWrites", spec := "quoteWrites", inPlace := ["internal/abi.NoEscape", "internal/bytealg.IndexByteString"], apart := false, narrowed := true }
def QuoteWritesUptoSaid : Prop := quoteWritesUptoRow.holds Try.pinned (OpenSpec.upto quoteWritesSpec)

end Rows
end Go.Proofs.Ytpbmengaaagbkaa
