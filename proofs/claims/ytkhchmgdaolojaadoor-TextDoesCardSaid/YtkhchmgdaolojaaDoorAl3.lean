
/-
  The statements of layer 3: alive, walked over the program.
-/
import Derived.Test.YtkhchmgdaolojaaDoorNum
import Derived.Test.YtkhchmgdaolojaaDoorGmy
import Derived.Test.YtkhchmgdaolojaaDoorCmp
import Derived.Test.YtkhchmgdaolojaaDoorRow
namespace Go.Proofs.YtkhchmgdaolojaaDoor.Tms
open Go Go.RowKit Go.Proofs.YtkhchmgdaolojaaDoor.Reg Go.Proofs.YtkhchmgdaolojaaDoor.Rws
set_option linter.unusedVariables false

end Go.Proofs.YtkhchmgdaolojaaDoor.Tms
