
/-
  goal.own walked over the program: what it returns reads as what it was given, its topmost Args in a row of the call's own.
-/
import Derived.Test.YtoklbeogmcdgaaaGnb
namespace Go.Proofs.Ytoklbeogmcdgaaa.Tms
open Go Go.RowKit Go.Proofs.Ytoklbeogmcdgaaa.Reg
set_option linter.unusedVariables false

/-- the topmost Args lie in a row of the call's own -/
def TopOwn (B : Nat) (t : Tm) (S : Nat → Prop) (wr : World) : Prop := ∃ a c, wr.cell? ⟨B, 3, none⟩ = some (.slice a t.args.length c) ∧ (t.args ≠ [] → ∃ g, a = some ⟨g, 0, none⟩ ∧ S g)
def Top (B : Nat) (t : Tm) (S : Nat → Prop) (l : List (Nat × Nat × Tm)) (wr : World) : Prop := l = [(B, 0, t)] ∨ TopOwn B t S wr
theorem Top.pop {B : Nat} {t : Tm} {S : Nat → Prop} {l : List (Nat × Nat × Tm)} {x : Nat × Nat × Tm} {wr : World} (h : Top B t S (l ++ [x]) wr) : x = (B, 0, t) ∨ TopOwn B t S wr := by
  rcases h with h | h
  · left
    cases l with
    | nil => simpa using h
    | cons y l => simp at h
  · exact .inr h
end Go.Proofs.Ytoklbeogmcdgaaa.Tms
