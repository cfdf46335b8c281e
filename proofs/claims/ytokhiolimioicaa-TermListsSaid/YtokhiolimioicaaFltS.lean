
/-
  The reference's Error, Unknown, Static walked over the program.
-/
import Derived.Test.YtokhiolimioicaaFltR
namespace Go.Proofs.Ytokhiolimioicaa.Tms
open Go Go.RowKit Go.Proofs.Ytokhiolimioicaa.Reg Go.Proofs.Ytokhiolimioicaa.Maps

def exT (s : ByteArray) (n : Int) : Tm := compT (⟨#[101, 120, 105, 115, 116, 101, 110, 99, 101, 95, 101, 114, 114, 111, 114]⟩ : ByteArray) [atomT (⟨#[112, 114, 111, 99, 101, 100, 117, 114, 101]⟩ : ByteArray), indT s n]

end Go.Proofs.Ytokhiolimioicaa.Tms
