
/-
  An argument of the type [][]Part.
-/
import Derived.Test.YtkhchmgdaolojaaDoorPt
import Derived.ProofKit
import Derived.OpenShut
import Derived.ShutString
import Derived.ChangeOld
import Derived.ChangeMaps5
import Derived.Deep.Slices
import Derived.Deep.Fields
import Derived.ChangeSame
namespace Go.Proofs.YtkhchmgdaolojaaDoor.Tms
open Go Go.ChangeMaps Go.ChangeShapes Go.WideShapes Go.ChangeAt Go.RowKit Go.Deep
set_option linter.unusedVariables false

/-- a slice of slices of parts -/
def PsSl (w : World) (v : Value) (LL : List (List Pt)) : Prop :=
  ∃ a cap, v = .slice a LL.length cap ∧ LL.length ≤ cap ∧ cap ≤ maxLen ∧ ∀ j (h : j < LL.length), ∃ b off u, a = some ⟨b, off, none⟩ ∧ b < w.heap.size ∧ w.cell? ⟨b, off + j, none⟩ = some u ∧ PtSl w u LL[j]

section
variable {H : Type} {enc : TypeId × Value → H} {w : World} {base : Nat} {spare : Nat → Bool} {held : Bool}
end
end Go.Proofs.YtkhchmgdaolojaaDoor.Tms
