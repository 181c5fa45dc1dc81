/- trial -/
import Derived.Test.YtbjejmdbpikgjaaRef4
import Derived.StillTailTactics
namespace Go.Proofs.Ytbjejmdbpikgjaa.Ref4
set_option linter.unusedVariables false
set_option linter.unusedSimpArgs false
set_option maxRecDepth 100000
open Go.RowKit Q Mach Dia Scan
theorem tail_at {P : Program} {ops : Array Oper} {Q : Exit → Act → World → Prop} {rest : List Oper} {a : Act} {w w' : World} (h : w = w') (k : wpList P ops Q rest a w') : wpList P ops Q rest a w := h ▸ k
end Go.Proofs.Ytbjejmdbpikgjaa.Ref4
