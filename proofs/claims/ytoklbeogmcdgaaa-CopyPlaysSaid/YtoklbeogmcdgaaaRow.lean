
/-
  Terms in rows that a call makes: one, two; a term whose blocks are any.
-/
import Derived.Test.YtoklbeogmcdgaaaTs
import Derived.Test.YtoklbeogmcdgaaaGmy
namespace Go.Proofs.Ytoklbeogmcdgaaa.Tms
open Go Go.RowKit Go.Proofs.Ytoklbeogmcdgaaa.Reg Go.Proofs.Ytoklbeogmcdgaaa.Rws
set_option linter.unusedVariables false

abbrev AnyB : Nat → Prop := fun _ => True
theorem IsTm.any {w : World} {P : Nat → Prop} {v : Value} {t : Tm} (h : IsTm w P v t) : IsTm w AnyB v t := h.imp (fun _ _ => trivial) fun _ _ _ => rfl
end Go.Proofs.Ytoklbeogmcdgaaa.Tms
