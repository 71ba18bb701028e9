/- Contracts of DoubleIndicator and ReadDouble (spec). -/
import Derived.Test.YtnfeddnkokocfaaKeyFns
import Derived.Test.YtnfeddnkokocfaaSpecMach3
namespace Go.Proofs.Ytnfeddnkokocfaa
set_option linter.unusedVariables false
set_option linter.unusedSimpArgs false
open Go.RowKit
attribute [local go_sem] Ext.cell
open BigFrame

end Go.Proofs.Ytnfeddnkokocfaa
