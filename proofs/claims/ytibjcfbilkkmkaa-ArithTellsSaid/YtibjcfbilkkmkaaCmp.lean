
/-
  term.Compare of the program walked: the order of terms.
-/
import Derived.Test.YtibjcfbilkkmkaaBoth
import Derived.Deep.LoopGhost
import Derived.Test.YtibjcfbilkkmkaaGnb
namespace Go.Proofs.Ytibjcfbilkkmkaa.Tms
open Go Go.RowKit Go.Proofs.Ytibjcfbilkkmkaa.Reg
set_option linter.unusedVariables false

def sumP : List (Tm × Tm) → Nat
  | [] => 0
  | p :: l => p.1.size + sumP l
theorem sumP_app : ∀ l m, sumP (l ++ m) = sumP l + sumP m
  | [], m => by simp [sumP]
  | p :: l, m => by simp [sumP, sumP_app l m]; omega
theorem len_sumP : ∀ l : List (Tm × Tm), l.length ≤ sumP l
  | [] => by simp
  | p :: l => by have := len_sumP l; have := size_pos p.1; simp [sumP]; omega

abbrev Lo (P P' : Nat → Prop) (B : Nat) : Nat → Prop := fun b => (P b ∨ P' b) ∧ b < B
theorem sumP_rev : ∀ l, sumP l.reverse = sumP l
  | [] => rfl
  | p :: l => by simp [sumP, sumP_app, sumP_rev l]; omega
theorem sumP_zip : ∀ a b : List Tm, sumP (a.zip b) ≤ sizeL a
  | [], b => by simp [sumP]
  | t :: ts, [] => by simp [sumP]
  | t :: ts, u :: us => by have := sumP_zip ts us; simp only [List.zip_cons_cons, sumP, sizeL]; omega
theorem cmp_turn {t u x y : Tm} {l : List (Tm × Tm)} (h : cmpP (l ++ [(x, y)]).reverse = cmpT t u) (h0 : cmpHead x y = 0) : cmpP (l ++ (x.args.zip y.args).reverse).reverse = cmpT t u := by
  have hl := cmpHead_len h0
  have hT : cmpT x y = cmpP (x.args.zip y.args) := by
    rw [← cmpL_zip _ _ hl]
    obtain ⟨k1, n1, s1, a1⟩ := x
    obtain ⟨k2, n2, s2, a2⟩ := y
    rw [cmpT, if_neg (by simpa using h0)]
    rfl
  rw [← h, List.reverse_append, List.reverse_append, List.reverse_reverse, List.reverse_singleton, cmpP_app, List.singleton_append]
  show _ = (if cmpT x y ≠ 0 then cmpT x y else _)
  rw [hT]

end Go.Proofs.Ytibjcfbilkkmkaa.Tms
