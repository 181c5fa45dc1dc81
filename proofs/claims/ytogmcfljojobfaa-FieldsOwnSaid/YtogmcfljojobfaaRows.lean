/-
  No cell of these rows narrows 'for every input' (looked for: loops, veiled, ifaces, maps, wideKeys, modest, calm, conditions, laid).
  DERIVED. THE GIVEN ROWS OF THIS SEAT. 7 by the template 'for every input the law returns true; each argument reads behind the call as it read before'; 0 by the template 'total and deterministic' (their statements: YtogmcfljojobfaaTotals.lean).
  GIVEN WITH THE SEED: the statements are not yours to turn. If you find one false, say at which input.
  Laid BY PROGRAM, IN A SANDBOX (cutbox-rows.mjs): the forced cells as the released guide's own fill.sh prints them over the translation 04f8f1918edec75e… (all of the seat's roots in one cut). By AI agents, Wed Nov 11 2026. No macro, syntax, notation, axiom, sorry.
-/
import Derived.Test.YtogmcfljojobfaaChecked
import GoSem.Claim
import GoSem.ClaimJoined
import GoSem.ClaimMapViews
import Derived.JoinedTies
import Derived.KernelRfl
namespace Go.Proofs.Ytogmcfljojobfaa
/- THE CELL 'sum', in the pinned program and in every row, IS THE sha256 OF THE DUMP (.gsa) THAT YtogmcfljojobfaaProg.lean LOADS. Nothing in Lean hashes anything: it is a label: what it is worth is what the hold of that sum in a sandbox is worth. -/
noncomputable def Try.pinned : Pinned := { name := "ytogmcfljojobfaa", sum := "04f8f1918edec75e3a5662147547dd40b6a3b80f2993140ebf45f7e6d13df81f", checked := Try.checked }
namespace Rows
def none {H : Type} : Left H := { results := [], args := [] }

/-- 'quillpenlaw05.FieldsOwn': WHATEVER THE INPUT: true; the input reads as it did. -/
def fieldsOwnSpec : ChangeSpec := { name := "fieldsOwn", fn := fun _ => fun
  | [d] => { results := [.lit (.bool true)], args := [d] }
  | _ => none }
def fieldsOwnRow : OpenClaim := { program := "ytogmcfljojobfaa", sum := "04f8f1918edec75e3a5662147547dd40b6a3b80f2993140ebf45f7e6d13df81f", func := "quillpen/quillpenlaw05.FieldsOwn", spec := "fieldsOwn", apart := false }
def FieldsOwnSaid : Prop := fieldsOwnRow.holds Try.pinned (OpenSpec.ofChange fieldsOwnSpec)

/-- ITS FALSE NEIGHBOUR: 'it returns false'. Refute it at one input. -/
def fieldsOwnWrong : ChangeSpec := { name := "fieldsOwn", fn := fun _ => fun
  | [d] => { results := [.lit (.bool false)], args := [d] }
  | _ => none }
def FieldsOwnWrongFalsely : Prop := fieldsOwnRow.holds Try.pinned (OpenSpec.ofChange fieldsOwnWrong)

/-- 'quillpenlaw05.FieldsWide': WHATEVER THE INPUT: true; the input reads as it did. -/
def fieldsWideSpec : ChangeSpec := { name := "fieldsWide", fn := fun _ => fun
  | [d] => { results := [.lit (.bool true)], args := [d] }
  | _ => none }
def fieldsWideRow : OpenClaim := { program := "ytogmcfljojobfaa", sum := "04f8f1918edec75e3a5662147547dd40b6a3b80f2993140ebf45f7e6d13df81f", func := "quillpen/quillpenlaw05.FieldsWide", spec := "fieldsWide", apart := false }
def FieldsWideSaid : Prop := fieldsWideRow.holds Try.pinned (OpenSpec.ofChange fieldsWideSpec)

/-- ITS FALSE NEIGHBOUR: 'it returns false'. Refute it at one input. -/
def fieldsWideWrong : ChangeSpec := { name := "fieldsWide", fn := fun _ => fun
  | [d] => { results := [.lit (.bool false)], args := [d] }
  | _ => none }
def FieldsWideWrongFalsely : Prop := fieldsWideRow.holds Try.pinned (OpenSpec.ofChange fieldsWideWrong)

/-- 'quillpenlaw05.FieldsStops': WHATEVER THE INPUT: true; the input reads as it did. -/
def fieldsStopsSpec : ChangeSpec := { name := "fieldsStops", fn := fun _ => fun
  | [d1, d2, d3] => { results := [.lit (.bool true)], args := [d1, d2, d3] }
  | _ => none }
def fieldsStopsRow : OpenClaim := { program := "ytogmcfljojobfaa", sum := "04f8f1918edec75e3a5662147547dd40b6a3b80f2993140ebf45f7e6d13df81f", func := "quillpen/quillpenlaw05.FieldsStops", spec := "fieldsStops", apart := false }
def FieldsStopsSaid : Prop := fieldsStopsRow.holds Try.pinned (OpenSpec.ofChange fieldsStopsSpec)

/-- ITS FALSE NEIGHBOUR: 'it returns false'. Refute it at one input. -/
def fieldsStopsWrong : ChangeSpec := { name := "fieldsStops", fn := fun _ => fun
  | [d1, d2, d3] => { results := [.lit (.bool false)], args := [d1, d2, d3] }
  | _ => none }
def FieldsStopsWrongFalsely : Prop := fieldsStopsRow.holds Try.pinned (OpenSpec.ofChange fieldsStopsWrong)

/-- 'quillpenlaw04.ScanSteps': WHATEVER THE INPUT: true; the input reads as it did. -/
def scanStepsSpec : ChangeSpec := { name := "scanSteps", fn := fun _ => fun
  | [d1, d2, d3] => { results := [.lit (.bool true)], args := [d1, d2, d3] }
  | _ => none }
def scanStepsRow : OpenClaim := { program := "ytogmcfljojobfaa", sum := "04f8f1918edec75e3a5662147547dd40b6a3b80f2993140ebf45f7e6d13df81f", func := "quillpen/quillpenlaw04.ScanSteps", spec := "scanSteps", apart := false }
def ScanStepsSaid : Prop := scanStepsRow.holds Try.pinned (OpenSpec.ofChange scanStepsSpec)

/-- ITS FALSE NEIGHBOUR: 'it returns false'. Refute it at one input. -/
def scanStepsWrong : ChangeSpec := { name := "scanSteps", fn := fun _ => fun
  | [d1, d2, d3] => { results := [.lit (.bool false)], args := [d1, d2, d3] }
  | _ => none }
def ScanStepsWrongFalsely : Prop := scanStepsRow.holds Try.pinned (OpenSpec.ofChange scanStepsWrong)

/-- 'quillpenlaw04.ScanCloses': WHATEVER THE INPUT: true; the input reads as it did. -/
def scanClosesSpec : ChangeSpec := { name := "scanCloses", fn := fun _ => fun
  | [d] => { results := [.lit (.bool true)], args := [d] }
  | _ => none }
def scanClosesRow : OpenClaim := { program := "ytogmcfljojobfaa", sum := "04f8f1918edec75e3a5662147547dd40b6a3b80f2993140ebf45f7e6d13df81f", func := "quillpen/quillpenlaw04.ScanCloses", spec := "scanCloses", apart := false }
def ScanClosesSaid : Prop := scanClosesRow.holds Try.pinned (OpenSpec.ofChange scanClosesSpec)

/-- ITS FALSE NEIGHBOUR: 'it returns false'. Refute it at one input. -/
def scanClosesWrong : ChangeSpec := { name := "scanCloses", fn := fun _ => fun
  | [d] => { results := [.lit (.bool false)], args := [d] }
  | _ => none }
def ScanClosesWrongFalsely : Prop := scanClosesRow.holds Try.pinned (OpenSpec.ofChange scanClosesWrong)

/-- 'quillpenlaw04.ScanRuns': WHATEVER THE INPUT: true; the input reads as it did. -/
def scanRunsSpec : ChangeSpec := { name := "scanRuns", fn := fun _ => fun
  | [d1, d2] => { results := [.lit (.bool true)], args := [d1, d2] }
  | _ => none }
def scanRunsRow : OpenClaim := { program := "ytogmcfljojobfaa", sum := "04f8f1918edec75e3a5662147547dd40b6a3b80f2993140ebf45f7e6d13df81f", func := "quillpen/quillpenlaw04.ScanRuns", spec := "scanRuns", apart := false }
def ScanRunsSaid : Prop := scanRunsRow.holds Try.pinned (OpenSpec.ofChange scanRunsSpec)

/-- ITS FALSE NEIGHBOUR: 'it returns false'. Refute it at one input. -/
def scanRunsWrong : ChangeSpec := { name := "scanRuns", fn := fun _ => fun
  | [d1, d2] => { results := [.lit (.bool false)], args := [d1, d2] }
  | _ => none }
def ScanRunsWrongFalsely : Prop := scanRunsRow.holds Try.pinned (OpenSpec.ofChange scanRunsWrong)

/-- 'quillpenlaw04.ScanEither': WHATEVER THE INPUT: true; the input reads as it did. -/
def scanEitherSpec : ChangeSpec := { name := "scanEither", fn := fun _ => fun
  | [d1, d2] => { results := [.lit (.bool true)], args := [d1, d2] }
  | _ => none }
def scanEitherRow : OpenClaim := { program := "ytogmcfljojobfaa", sum := "04f8f1918edec75e3a5662147547dd40b6a3b80f2993140ebf45f7e6d13df81f", func := "quillpen/quillpenlaw04.ScanEither", spec := "scanEither", apart := false }
def ScanEitherSaid : Prop := scanEitherRow.holds Try.pinned (OpenSpec.ofChange scanEitherSpec)

/-- ITS FALSE NEIGHBOUR: 'it returns false'. Refute it at one input. -/
def scanEitherWrong : ChangeSpec := { name := "scanEither", fn := fun _ => fun
  | [d1, d2] => { results := [.lit (.bool false)], args := [d1, d2] }
  | _ => none }
def ScanEitherWrongFalsely : Prop := scanEitherRow.holds Try.pinned (OpenSpec.ofChange scanEitherWrong)

/- THE SECOND FORM. 'bulk': how many values and letters a reading holds, each counted each time it is reached (what is shared counts as often as it is met; a slice's spare places count too). A statement '..UptoSaid' is the law's where the arguments, and the package variables that the reading takes, are together of bulk at most 1048576: NARROWER than '..Said'. Prove '..Said' where nothing that the law and all that it calls make is longer than what came in: it says more and counts as full. Else prove '..UptoSaid'. A law counts once. -/
mutual
def uptoBulk {H : Type} : DataW H → Nat
  | .lit (.string bytes) => bytes.length + 1
  | .lit _ => 1
  | .nil => 1
  | .ptr d => uptoBulk d + 1
  | .slice elems spare => uptoBulkAll elems + uptoBulkAll spare + 1
  | .agg parts => uptoBulkAll parts + 1
  | .iface _ d => uptoBulk d + 1
  | .map entries => uptoBulkEntries entries + 1
  | .held _ => 1
def uptoBulkAll {H : Type} : List (DataW H) → Nat
  | [] => 0
  | d :: r => uptoBulk d + uptoBulkAll r
def uptoBulkEntries {H : Type} : List (Lit × DataW H) → Nat
  | [] => 0
  | x :: r => uptoBulkEntry x + uptoBulkEntries r
def uptoBulkEntry {H : Type} : Lit × DataW H → Nat
  | (.string bytes, d) => bytes.length + uptoBulk d + 1
  | (_, d) => uptoBulk d + 1
 end
def uptoSmall : (H : Type) → List (DataW H) → Bool := fun _ ds => decide (uptoBulkAll ds ≤ 1048576)
def OpenSpec.upto (s : _root_.Go.ChangeSpec) : _root_.Go.OpenSpec := { _root_.Go.OpenSpec.ofChange s with cond := some uptoSmall }

/-- 'quillpenlaw05.FieldsOwn', WHERE WHAT IT READS IS OF BULK AT MOST 1048576: true; the input reads as it did. -/
def fieldsOwnUptoRow : OpenClaim := { program := "ytogmcfljojobfaa", sum := "04f8f1918edec75e3a5662147547dd40b6a3b80f2993140ebf45f7e6d13df81f", func := "quillpen/quillpenlaw05.FieldsOwn", spec := "fieldsOwn", apart := false, narrowed := true }
def FieldsOwnUptoSaid : Prop := fieldsOwnUptoRow.holds Try.pinned (OpenSpec.upto fieldsOwnSpec)

/-- 'quillpenlaw05.FieldsWide', WHERE WHAT IT READS IS OF BULK AT MOST 1048576: true; the input reads as it did. -/
def fieldsWideUptoRow : OpenClaim := { program := "ytogmcfljojobfaa", sum := "04f8f1918edec75e3a5662147547dd40b6a3b80f2993140ebf45f7e6d13df81f", func := "quillpen/quillpenlaw05.FieldsWide", spec := "fieldsWide", apart := false, narrowed := true }
def FieldsWideUptoSaid : Prop := fieldsWideUptoRow.holds Try.pinned (OpenSpec.upto fieldsWideSpec)

/-- 'quillpenlaw05.FieldsStops', WHERE WHAT IT READS IS OF BULK AT MOST 1048576: true; the input reads as it did. -/
def fieldsStopsUptoRow : OpenClaim := { program := "ytogmcfljojobfaa", sum := "04f8f1918edec75e3a5662147547dd40b6a3b80f2993140ebf45f7e6d13df81f", func := "quillpen/quillpenlaw05.FieldsStops", spec := "fieldsStops", apart := false, narrowed := true }
def FieldsStopsUptoSaid : Prop := fieldsStopsUptoRow.holds Try.pinned (OpenSpec.upto fieldsStopsSpec)

/-- 'quillpenlaw04.ScanSteps', WHERE WHAT IT READS IS OF BULK AT MOST 1048576: true; the input reads as it did. -/
def scanStepsUptoRow : OpenClaim := { program := "ytogmcfljojobfaa", sum := "04f8f1918edec75e3a5662147547dd40b6a3b80f2993140ebf45f7e6d13df81f", func := "quillpen/quillpenlaw04.ScanSteps", spec := "scanSteps", apart := false, narrowed := true }
def ScanStepsUptoSaid : Prop := scanStepsUptoRow.holds Try.pinned (OpenSpec.upto scanStepsSpec)

/-- 'quillpenlaw04.ScanCloses', WHERE WHAT IT READS IS OF BULK AT MOST 1048576: true; the input reads as it did. -/
def scanClosesUptoRow : OpenClaim := { program := "ytogmcfljojobfaa", sum := "04f8f1918edec75e3a5662147547dd40b6a3b80f2993140ebf45f7e6d13df81f", func := "quillpen/quillpenlaw04.ScanCloses", spec := "scanCloses", apart := false, narrowed := true }
def ScanClosesUptoSaid : Prop := scanClosesUptoRow.holds Try.pinned (OpenSpec.upto scanClosesSpec)

/-- 'quillpenlaw04.ScanRuns', WHERE WHAT IT READS IS OF BULK AT MOST 1048576: true; the input reads as it did. -/
def scanRunsUptoRow : OpenClaim := { program := "ytogmcfljojobfaa", sum := "04f8f1918edec75e3a5662147547dd40b6a3b80f2993140ebf45f7e6d13df81f", func := "quillpen/quillpenlaw04.ScanRuns", spec := "scanRuns", apart := false, narrowed := true }
def ScanRunsUptoSaid : Prop := scanRunsUptoRow.holds Try.pinned (OpenSpec.upto scanRunsSpec)

/-- 'quillpenlaw04.ScanEither', WHERE WHAT IT READS IS OF BULK AT MOST 1048576: true; the input reads as it did. -/
def scanEitherUptoRow : OpenClaim := { program := "ytogmcfljojobfaa", sum := "04f8f1918edec75e3a5662147547dd40b6a3b80f2993140ebf45f7e6d13df81f", func := "quillpen/quillpenlaw04.ScanEither", spec := "scanEither", apart := false, narrowed := true }
def ScanEitherUptoSaid : Prop := scanEitherUptoRow.holds Try.pinned (OpenSpec.upto scanEitherSpec)

end Rows
end Go.Proofs.Ytogmcfljojobfaa
