
/-
  The statements of layer 3: alive, walked over the program.
-/
import Derived.Test.YtkhchmgdaolojaaDoorNum
import Derived.Test.YtkhchmgdaolojaaDoorGmy
import Derived.Test.YtkhchmgdaolojaaDoorCmp
import Derived.Test.YtkhchmgdaolojaaDoorRow
namespace Go.Proofs.YtkhchmgdaolojaaDoor.Tms
open Go Go.RowKit Go.Proofs.YtkhchmgdaolojaaDoor.Reg Go.Proofs.YtkhchmgdaolojaaDoor.Rws
set_option linter.unusedVariables false

def exT3 : Tm := compT (⟨#[102]⟩ : ByteArray) [varT 7, compT (⟨#[103]⟩ : ByteArray) [varT 2, varT 7]]
def exN3 : Tm := compT (⟨#[102]⟩ : ByteArray) [varT 0, compT (⟨#[103]⟩ : ByteArray) [varT 1, varT 0]]
def exA3 : Tm := compT (⟨#[102]⟩ : ByteArray) [atomT (⟨#[97]⟩ : ByteArray), atomT (⟨#[98]⟩ : ByteArray)]
def exB3 : Tm := compT (⟨#[103]⟩ : ByteArray) [atomT (⟨#[99]⟩ : ByteArray)]
theorem ex_cmp : cmpT exA3 exB3 = 1 := by decide +kernel
theorem ex_vars : varsT exT3 = [7, 2] := by decide +kernel
theorem ex_num : sameT (numT exT3) exN3 = true := by decide +kernel
theorem ex_check : checkT exT3 = 0 := by decide +kernel
theorem ex_size : exT3.size = 5 := by decide +kernel
theorem ex_deep : (msT exT3).2.2 = 3 := by decide +kernel
theorem ex_nsize : (numT exT3).size = 5 := by decide +kernel

end Go.Proofs.YtkhchmgdaolojaaDoor.Tms
