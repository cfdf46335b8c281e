
/-
  Atoms, compound terms and indicators, of the program and of the reference, walked over the program.
-/
import Derived.Test.YtkhchmgdaolojaaSame
import Derived.Laws.Tables
import Derived.Test.YtkhchmgdaolojaaGna
namespace Go.Proofs.Ytkhchmgdaolojaa.Tms
open Go Go.RowKit Go.Proofs.Ytkhchmgdaolojaa.Reg
theorem flt_atom (s : ByteArray) (w : World) : Calls Try.prog 123 #[.string s] w fun e w' => e = .returned (atomV s) ∧ Below w.heap.size w w' := by
  go_enter Try.func123, Try.ntmps123
  go_wp2
  exact bodyPost_ret (v := atomV s) (by simp [results, Try.results123, go_sem]) rfl ⟨rfl, (Below.refl _ _).alloc (Nat.le_refl _) _⟩

theorem flt_comp (s : ByteArray) (a : Option Addr) (n cap : Nat) (w : World) : Calls Try.prog 125 #[.string s, .slice a n cap] w fun e w' => e = .returned (compV s a n cap) ∧ Below w.heap.size w w' := by
  go_enter Try.func125, Try.ntmps125
  go_wp2
  exact bodyPost_ret (v := compV s a n cap) (by simp [results, Try.results125, go_sem]) rfl ⟨rfl, (Below.refl _ _).alloc (Nat.le_refl _) _⟩

end Go.Proofs.Ytkhchmgdaolojaa.Tms
