
/-
  Slices of numbers: as a call keeps them, and as they are read.
-/
import Derived.Test.YtkhchmgdaolojaaDoorMsd
import Derived.Test.YtkhchmgdaolojaaDoorBas
namespace Go.Proofs.YtkhchmgdaolojaaDoor.Tms
open Go Go.RowKit Go.Proofs.YtkhchmgdaolojaaDoor.Reg Go.Proofs.YtkhchmgdaolojaaDoor.Rws
set_option linter.unusedVariables false
set_option linter.unusedSimpArgs false

/-- a slice of numbers -/
def IntSl (w : World) (P : Nat → Prop) (v : Value) (L : List Int) : Prop := ∃ a cap, v = .slice a L.length cap ∧ L.length ≤ cap ∧ cap ≤ maxLen ∧ ∀ i (h : i < L.length), ∃ b off, a = some ⟨b, off, none⟩ ∧ P b ∧ b < w.heap.size ∧ w.cell? ⟨b, off + i, none⟩ = some (.int .i64 L[i])
theorem IntSl.below {w w' : World} {P : Nat → Prop} {v : Value} {L : List Int} (h : IntSl w P v L) (hb : Below w.heap.size w w') : IntSl w' P v L := by
  obtain ⟨a, cap, e, h1, h2, h3⟩ := h
  refine ⟨a, cap, e, h1, h2, fun i hi => ?_⟩
  obtain ⟨b, off, e, hp, hl, hc⟩ := h3 i hi
  exact ⟨b, off, e, hp, by have := hb.size; omega, (hb.cell (p := ⟨b, off + i, none⟩) hl).trans hc⟩
end Go.Proofs.YtkhchmgdaolojaaDoor.Tms
