/-
  No contract of a library function is needed here.
-/
import Derived.Test.YtibjcfbilkkmkaaProg
namespace Go.Proofs
end Go.Proofs
