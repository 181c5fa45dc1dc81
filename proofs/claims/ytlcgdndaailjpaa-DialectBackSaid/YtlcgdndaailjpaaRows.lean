/-
  No cell of these rows narrows 'for every input' (looked for: loops, veiled, ifaces, maps, wideKeys, modest, calm, conditions, laid).
  DERIVED. THE GIVEN ROWS OF THIS SEAT. 4 by the template 'for every input the law returns true; each argument reads behind the call as it read before'; 0 by the template 'total and deterministic' (their statements: YtlcgdndaailjpaaTotals.lean).
  GIVEN WITH THE SEED: the statements are not yours to turn. If you find one false, say at which input.
  Laid BY PROGRAM, IN A SANDBOX (cutbox-rows.mjs): the forced cells as the released guide's own fill.sh prints them over the translation 637531a9f1ede2f1… (all of the seat's roots in one cut). By AI agents, Wed Nov 11 2026. No macro, syntax, notation, axiom, sorry.
-/
import Derived.Test.YtlcgdndaailjpaaChecked
import GoSem.Claim
import GoSem.ClaimJoined
import GoSem.ClaimMapViews
import Derived.JoinedTies
import Derived.KernelRfl
namespace Go.Proofs.Ytlcgdndaailjpaa
/- THE CELL 'sum', in the pinned program and in every row, IS THE sha256 OF THE DUMP (.gsa) THAT YtlcgdndaailjpaaProg.lean LOADS. Nothing in Lean hashes anything: it is a label: what it is worth is what the hold of that sum in a sandbox is worth. -/
noncomputable def Try.pinned : Pinned := { name := "ytlcgdndaailjpaa", sum := "637531a9f1ede2f1efc0f1f7fbf6d935eb423251953c27836398ed2d8d07ad56", checked := Try.checked }
namespace Rows
def none {H : Type} : Left H := { results := [], args := [] }

/-- 'quillpenlaw01.DialectChecks': WHATEVER THE INPUT: true; the input reads as it did. -/
def dialectChecksSpec : ChangeSpec := { name := "dialectChecks", fn := fun _ => fun
  | [d] => { results := [.lit (.bool true)], args := [d] }
  | _ => none }
def dialectChecksRow : OpenClaim := { program := "ytlcgdndaailjpaa", sum := "637531a9f1ede2f1efc0f1f7fbf6d935eb423251953c27836398ed2d8d07ad56", func := "quillpen/quillpenlaw01.DialectChecks", spec := "dialectChecks", apart := false }
def DialectChecksSaid : Prop := dialectChecksRow.holds Try.pinned (OpenSpec.ofChange dialectChecksSpec)

/-- ITS FALSE NEIGHBOUR: 'it returns false'. Refute it at one input. -/
def dialectChecksWrong : ChangeSpec := { name := "dialectChecks", fn := fun _ => fun
  | [d] => { results := [.lit (.bool false)], args := [d] }
  | _ => none }
def DialectChecksWrongFalsely : Prop := dialectChecksRow.holds Try.pinned (OpenSpec.ofChange dialectChecksWrong)

/-- 'quillpenlaw01.DialectLimits': WHATEVER THE INPUT: true; the input reads as it did. -/
def dialectLimitsSpec : ChangeSpec := { name := "dialectLimits", fn := fun _ => fun
  | [d] => { results := [.lit (.bool true)], args := [d] }
  | _ => none }
def dialectLimitsRow : OpenClaim := { program := "ytlcgdndaailjpaa", sum := "637531a9f1ede2f1efc0f1f7fbf6d935eb423251953c27836398ed2d8d07ad56", func := "quillpen/quillpenlaw01.DialectLimits", spec := "dialectLimits", apart := false }
def DialectLimitsSaid : Prop := dialectLimitsRow.holds Try.pinned (OpenSpec.ofChange dialectLimitsSpec)

/-- ITS FALSE NEIGHBOUR: 'it returns false'. Refute it at one input. -/
def dialectLimitsWrong : ChangeSpec := { name := "dialectLimits", fn := fun _ => fun
  | [d] => { results := [.lit (.bool false)], args := [d] }
  | _ => none }
def DialectLimitsWrongFalsely : Prop := dialectLimitsRow.holds Try.pinned (OpenSpec.ofChange dialectLimitsWrong)

/-- 'quillpenlaw01.DialectParses': WHATEVER THE INPUT: true; the input reads as it did. -/
def dialectParsesSpec : ChangeSpec := { name := "dialectParses", fn := fun _ => fun
  | [d] => { results := [.lit (.bool true)], args := [d] }
  | _ => none }
def dialectParsesRow : OpenClaim := { program := "ytlcgdndaailjpaa", sum := "637531a9f1ede2f1efc0f1f7fbf6d935eb423251953c27836398ed2d8d07ad56", func := "quillpen/quillpenlaw01.DialectParses", spec := "dialectParses", apart := false }
def DialectParsesSaid : Prop := dialectParsesRow.holds Try.pinned (OpenSpec.ofChange dialectParsesSpec)

/-- ITS FALSE NEIGHBOUR: 'it returns false'. Refute it at one input. -/
def dialectParsesWrong : ChangeSpec := { name := "dialectParses", fn := fun _ => fun
  | [d] => { results := [.lit (.bool false)], args := [d] }
  | _ => none }
def DialectParsesWrongFalsely : Prop := dialectParsesRow.holds Try.pinned (OpenSpec.ofChange dialectParsesWrong)

/-- 'quillpenlaw01.DialectBack': WHATEVER THE INPUT: true; the input reads as it did. -/
def dialectBackSpec : ChangeSpec := { name := "dialectBack", fn := fun _ => fun
  | [d1, d2] => { results := [.lit (.bool true)], args := [d1, d2] }
  | _ => none }
def dialectBackRow : OpenClaim := { program := "ytlcgdndaailjpaa", sum := "637531a9f1ede2f1efc0f1f7fbf6d935eb423251953c27836398ed2d8d07ad56", func := "quillpen/quillpenlaw01.DialectBack", spec := "dialectBack", apart := false }
def DialectBackSaid : Prop := dialectBackRow.holds Try.pinned (OpenSpec.ofChange dialectBackSpec)

/-- ITS FALSE NEIGHBOUR: 'it returns false'. Refute it at one input. -/
def dialectBackWrong : ChangeSpec := { name := "dialectBack", fn := fun _ => fun
  | [d1, d2] => { results := [.lit (.bool false)], args := [d1, d2] }
  | _ => none }
def DialectBackWrongFalsely : Prop := dialectBackRow.holds Try.pinned (OpenSpec.ofChange dialectBackWrong)

/- THE SECOND FORM. 'bulk': how many values and letters a reading holds, each counted each time it is reached (what is shared counts as often as it is met; a slice's spare places count too). A statement '..UptoSaid' is the law's where the arguments, and the package variables that the reading takes, are together of bulk at most 1048576: NARROWER than '..Said'. Prove '..Said' where nothing that the law and all that it calls make is longer than what came in: it says more and counts as full. Else prove '..UptoSaid'. A law counts once. -/
mutual
def uptoBulk {H : Type} : DataW H → Nat
  | .lit (.string bytes) => bytes.length + 1
  | .lit _ => 1
  | .nil => 1
  | .ptr d => uptoBulk d + 1
  | .slice elems spare => uptoBulkAll elems + uptoBulkAll spare + 1
  | .agg parts => uptoBulkAll parts + 1
  | .iface _ d => uptoBulk d + 1
  | .map entries => uptoBulkEntries entries + 1
  | .held _ => 1
def uptoBulkAll {H : Type} : List (DataW H) → Nat
  | [] => 0
  | d :: r => uptoBulk d + uptoBulkAll r
def uptoBulkEntries {H : Type} : List (Lit × DataW H) → Nat
  | [] => 0
  | x :: r => uptoBulkEntry x + uptoBulkEntries r
def uptoBulkEntry {H : Type} : Lit × DataW H → Nat
  | (.string bytes, d) => bytes.length + uptoBulk d + 1
  | (_, d) => uptoBulk d + 1
 end
def uptoSmall : (H : Type) → List (DataW H) → Bool := fun _ ds => decide (uptoBulkAll ds ≤ 1048576)
def OpenSpec.upto (s : _root_.Go.ChangeSpec) : _root_.Go.OpenSpec := { _root_.Go.OpenSpec.ofChange s with cond := some uptoSmall }

/-- 'quillpenlaw01.DialectChecks', WHERE WHAT IT READS IS OF BULK AT MOST 1048576: true; the input reads as it did. -/
def dialectChecksUptoRow : OpenClaim := { program := "ytlcgdndaailjpaa", sum := "637531a9f1ede2f1efc0f1f7fbf6d935eb423251953c27836398ed2d8d07ad56", func := "quillpen/quillpenlaw01.DialectChecks", spec := "dialectChecks", apart := false, narrowed := true }
def DialectChecksUptoSaid : Prop := dialectChecksUptoRow.holds Try.pinned (OpenSpec.upto dialectChecksSpec)

/-- 'quillpenlaw01.DialectLimits', WHERE WHAT IT READS IS OF BULK AT MOST 1048576: true; the input reads as it did. -/
def dialectLimitsUptoRow : OpenClaim := { program := "ytlcgdndaailjpaa", sum := "637531a9f1ede2f1efc0f1f7fbf6d935eb423251953c27836398ed2d8d07ad56", func := "quillpen/quillpenlaw01.DialectLimits", spec := "dialectLimits", apart := false, narrowed := true }
def DialectLimitsUptoSaid : Prop := dialectLimitsUptoRow.holds Try.pinned (OpenSpec.upto dialectLimitsSpec)

/-- 'quillpenlaw01.DialectParses', WHERE WHAT IT READS IS OF BULK AT MOST 1048576: true; the input reads as it did. -/
def dialectParsesUptoRow : OpenClaim := { program := "ytlcgdndaailjpaa", sum := "637531a9f1ede2f1efc0f1f7fbf6d935eb423251953c27836398ed2d8d07ad56", func := "quillpen/quillpenlaw01.DialectParses", spec := "dialectParses", apart := false, narrowed := true }
def DialectParsesUptoSaid : Prop := dialectParsesUptoRow.holds Try.pinned (OpenSpec.upto dialectParsesSpec)

/-- 'quillpenlaw01.DialectBack', WHERE WHAT IT READS IS OF BULK AT MOST 1048576: true; the input reads as it did. -/
def dialectBackUptoRow : OpenClaim := { program := "ytlcgdndaailjpaa", sum := "637531a9f1ede2f1efc0f1f7fbf6d935eb423251953c27836398ed2d8d07ad56", func := "quillpen/quillpenlaw01.DialectBack", spec := "dialectBack", apart := false, narrowed := true }
def DialectBackUptoSaid : Prop := dialectBackUptoRow.holds Try.pinned (OpenSpec.upto dialectBackSpec)

end Rows
end Go.Proofs.Ytlcgdndaailjpaa
