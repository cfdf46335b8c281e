
/-
  What measure is told of a term, by recursion on the term: whether all its parts may be, its size, its depth. Plain.
-/
import Derived.Test.YtilmfkpflecghaaMsd
namespace Go.Proofs.Ytilmfkpflecghaa.Tms
open Go Go.RowKit
set_option linter.unusedVariables false

mutual
def mayT : Tm → Bool
  | .mk k n s a => mayB k n s a.length && mayTL a
def mayTL : List Tm → Bool
  | [] => true
  | t :: l => mayT t && mayTL l
end
mutual
def deepT : Tm → Nat
  | .mk _ _ _ a => deepL a + 1
def deepL : List Tm → Nat
  | [] => 0
  | t :: l => max (deepT t) (deepL l)
end
mutual
theorem meas_parts : ∀ (t : Tm) (st : Bool × Int × Int) (d : Int), meas st (parts d t) = (st.1 || !mayT t, st.2.1 + t.size, max st.2.2 (d - 1 + deepT t))
  | .mk k n s a, st, d => by
    rw [parts]
    simp only [meas]
    have h := meas_partsL a (st.1 || !mayB k n s a.length, st.2.1 + 1, max st.2.2 d) (d + 1) (by simp only []; omega)
    show meas (st.1 || !mayB k n s a.length, st.2.1 + 1, max st.2.2 d) (partsL (d + 1) a) = _
    rw [h]
    simp only [mayT, Tm.size, deepT, Prod.mk.injEq]
    refine ⟨?_, ?_, ?_⟩
    · cases st.1 <;> cases mayB k n s a.length <;> cases mayTL a <;> rfl
    · omega
    · omega
theorem meas_partsL : ∀ (l : List Tm) (st : Bool × Int × Int) (d : Int), d - 1 ≤ st.2.2 → meas st (partsL d l) = (st.1 || !mayTL l, st.2.1 + sizeL l, max st.2.2 (d - 1 + deepL l))
  | [], st, d, hd => by
    simp only [partsL, meas, mayTL, sizeL, deepL, Bool.not_true, Bool.or_false]
    obtain ⟨b, x, y⟩ := st
    simp only [Prod.mk.injEq, true_and] at hd ⊢
    omega
  | t :: l, st, d, hd => by
    rw [partsL, meas_app, meas_parts t st d, meas_partsL l _ d (by simp only []; omega)]
    simp only [mayTL, sizeL, deepL, Prod.mk.injEq]
    refine ⟨?_, ?_, ?_⟩
    · cases st.1 <;> cases mayT t <;> cases mayTL l <;> rfl
    · omega
    · omega
end
theorem msT_eq (t : Tm) : msT t = (!mayT t, (t.size : Int), (deepT t : Int)) := by
  unfold msT
  rw [meas_parts]
  simp only [Prod.mk.injEq, Bool.false_or, true_and]
  omega
theorem checkT_eq (t : Tm) : checkT t = if mayT t = false then 2 else if 2000 < deepT t then 4 else if 20000 < t.size then 3 else 0 := by
  unfold checkT
  rw [msT_eq]
  simp only []
  cases mayT t
  · simp
  · have h1 : ((2000 : Int) < (deepT t : Int)) ↔ 2000 < deepT t := by omega
    have h2 : ((20000 : Int) < (t.size : Int)) ↔ 20000 < t.size := by omega
    simp only [h1, h2]
    simp
mutual
theorem deep_le : ∀ t : Tm, deepT t ≤ t.size
  | .mk k n s a => by have := deepL_le a; simp only [deepT, Tm.size]; omega
theorem deepL_le : ∀ l : List Tm, deepL l ≤ sizeL l
  | [] => by simp [deepL, sizeL]
  | t :: l => by have := deep_le t; have := deepL_le l; simp only [deepL, sizeL]; omega
end
end Go.Proofs.Ytilmfkpflecghaa.Tms
