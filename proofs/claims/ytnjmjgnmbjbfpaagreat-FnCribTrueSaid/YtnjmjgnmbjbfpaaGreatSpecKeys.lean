/- Contracts of DoubleIndicator and ReadDouble (spec). -/
import Derived.Test.YtnjmjgnmbjbfpaaGreatKeyFns
import Derived.Test.YtnjmjgnmbjbfpaaGreatSpecMach3
namespace Go.Proofs.YtnjmjgnmbjbfpaaGreat
set_option linter.unusedVariables false
set_option linter.unusedSimpArgs false
open Go.RowKit
attribute [local go_sem] Ext.cell
open BigFrame

end Go.Proofs.YtnjmjgnmbjbfpaaGreat
