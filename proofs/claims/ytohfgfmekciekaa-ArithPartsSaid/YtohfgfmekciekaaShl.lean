/-
  No contract of a library function is needed here.
-/
import Derived.Test.YtohfgfmekciekaaProg
namespace Go.Proofs
end Go.Proofs
