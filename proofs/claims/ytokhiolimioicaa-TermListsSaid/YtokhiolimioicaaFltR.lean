
/-
  The reference's Formal, Error, Unknown, Static walked over the program.
-/
import Derived.Test.YtokhiolimioicaaFltE
namespace Go.Proofs.Ytokhiolimioicaa.Tms
open Go Go.RowKit Go.Proofs.Ytokhiolimioicaa.Reg Go.Proofs.Ytokhiolimioicaa.Maps

end Go.Proofs.Ytokhiolimioicaa.Tms
