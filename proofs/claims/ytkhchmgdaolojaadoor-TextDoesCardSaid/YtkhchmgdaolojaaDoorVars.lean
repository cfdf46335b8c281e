
/-
  What term.seen keeps (the numbers that came, and where each stands), and its methods number and take, walked.
  term.seen's number and take of the program walked.
  term.walk of the program with (*prolix/term.seen).take as its visitor, walked (printed by gen_walk.py).
  term.seen's take, and term.Vars, of the program walked.
-/
import Derived.Test.YtkhchmgdaolojaaDoorMsd
import Derived.Test.YtkhchmgdaolojaaDoorJnt
import Derived.Test.YtkhchmgdaolojaaDoorBas
import Derived.Test.YtkhchmgdaolojaaDoorVisit
namespace Go.Proofs.YtkhchmgdaolojaaDoor.Tms
open Go Go.RowKit Go.Proofs.YtkhchmgdaolojaaDoor.Reg Go.Proofs.YtkhchmgdaolojaaDoor.Rws
set_option linter.unusedVariables false

end Go.Proofs.YtkhchmgdaolojaaDoor.Tms
namespace Go.Proofs.YtkhchmgdaolojaaDoor.Tms
open Go Go.RowKit Go.Proofs.YtkhchmgdaolojaaDoor.Reg Go.Proofs.YtkhchmgdaolojaaDoor.Rws
set_option linter.unusedVariables false

end Go.Proofs.YtkhchmgdaolojaaDoor.Tms
namespace Go.Proofs.YtkhchmgdaolojaaDoor.Tms
open Go Go.RowKit Go.Proofs.YtkhchmgdaolojaaDoor.Reg Go.Proofs.YtkhchmgdaolojaaDoor.Rws
set_option linter.unusedVariables false

end Go.Proofs.YtkhchmgdaolojaaDoor.Tms
namespace Go.Proofs.YtkhchmgdaolojaaDoor.Tms
open Go Go.RowKit Go.Proofs.YtkhchmgdaolojaaDoor.Reg Go.Proofs.YtkhchmgdaolojaaDoor.Rws
set_option linter.unusedVariables false

end Go.Proofs.YtkhchmgdaolojaaDoor.Tms
