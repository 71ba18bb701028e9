/- Contracts of DoubleIndicator and ReadDouble (spec). -/
import Derived.Test.YthelcpfcamidiaaGreatKeyFns
import Derived.Test.YthelcpfcamidiaaGreatSpecMach3
namespace Go.Proofs.YthelcpfcamidiaaGreat
set_option linter.unusedVariables false
set_option linter.unusedSimpArgs false
open Go.RowKit
attribute [local go_sem] Ext.cell
open BigFrame

end Go.Proofs.YthelcpfcamidiaaGreat
