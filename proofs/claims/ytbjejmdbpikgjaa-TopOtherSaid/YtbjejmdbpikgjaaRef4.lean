/- The document's table of bytes: column, Step, Close; the law's Ref. -/
import Derived.Test.YtbjejmdbpikgjaaScan
namespace Go.Proofs.Ytbjejmdbpikgjaa.Ref4
set_option linter.unusedVariables false
set_option linter.unusedSimpArgs false
set_option maxRecDepth 100000
open Go.RowKit Q Mach Dia Scan

def col (d : Dia) (b : UInt8) : Nat := if b == d.quote then 0 else if b == d.delim then 1 else if b == 13 then 2 else if b == 10 then 3 else 4
def one (b : Bool) : Int := if b then 1 else 0
abbrev revV (e : Ev) : Value := .agg #[.int .i64 (one e.beg), .int .i64 (one e.add), .int .i64 (one e.fld), .int .i64 (one e.lin), .int .i64 (one e.rcd), .int .i64 e.b.toNat]
def rstepV (x : Ev × Nat × Nat) : Value := .tuple #[revV x.1, .int .i64 x.2.1, .int .i64 x.2.2]
def rcloseV (x : Ev × Nat) : Value := .tuple #[revV x.1, .int .i64 x.2]

end Go.Proofs.Ytbjejmdbpikgjaa.Ref4
