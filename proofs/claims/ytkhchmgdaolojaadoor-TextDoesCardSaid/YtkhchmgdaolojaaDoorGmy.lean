
/-
  What measure is told of a term, by recursion on the term: whether all its parts may be, its size, its depth. Plain.
  What is made good may be, in plain Lean.
-/
import Derived.Test.YtkhchmgdaolojaaDoorMsd
import Derived.Test.YtkhchmgdaolojaaDoorMend
import Derived.Test.YtkhchmgdaolojaaDoorGna
namespace Go.Proofs.YtkhchmgdaolojaaDoor.Tms
open Go Go.RowKit
set_option linter.unusedVariables false

mutual
def mayT : Tm → Bool
  | .mk k n s a => mayB k n s a.length && mayTL a
def mayTL : List Tm → Bool
  | [] => true
  | t :: l => mayT t && mayTL l
end
mutual
def deepT : Tm → Nat
  | .mk _ _ _ a => deepL a + 1
def deepL : List Tm → Nat
  | [] => 0
  | t :: l => max (deepT t) (deepL l)
end
mutual
theorem meas_parts : ∀ (t : Tm) (st : Bool × Int × Int) (d : Int), meas st (parts d t) = (st.1 || !mayT t, st.2.1 + t.size, max st.2.2 (d - 1 + deepT t))
  | .mk k n s a, st, d => by
    rw [parts]
    simp only [meas]
    have h := meas_partsL a (st.1 || !mayB k n s a.length, st.2.1 + 1, max st.2.2 d) (d + 1) (by simp only []; omega)
    show meas (st.1 || !mayB k n s a.length, st.2.1 + 1, max st.2.2 d) (partsL (d + 1) a) = _
    rw [h]
    simp only [mayT, Tm.size, deepT, Prod.mk.injEq]
    refine ⟨?_, ?_, ?_⟩
    · cases st.1 <;> cases mayB k n s a.length <;> cases mayTL a <;> rfl
    · omega
    · omega
theorem meas_partsL : ∀ (l : List Tm) (st : Bool × Int × Int) (d : Int), d - 1 ≤ st.2.2 → meas st (partsL d l) = (st.1 || !mayTL l, st.2.1 + sizeL l, max st.2.2 (d - 1 + deepL l))
  | [], st, d, hd => by
    simp only [partsL, meas, mayTL, sizeL, deepL, Bool.not_true, Bool.or_false]
    obtain ⟨b, x, y⟩ := st
    simp only [Prod.mk.injEq, true_and] at hd ⊢
    omega
  | t :: l, st, d, hd => by
    rw [partsL, meas_app, meas_parts t st d, meas_partsL l _ d (by simp only []; omega)]
    simp only [mayTL, sizeL, deepL, Prod.mk.injEq]
    refine ⟨?_, ?_, ?_⟩
    · cases st.1 <;> cases mayT t <;> cases mayTL l <;> rfl
    · omega
    · omega
end
theorem msT_eq (t : Tm) : msT t = (!mayT t, (t.size : Int), (deepT t : Int)) := by
  unfold msT
  rw [meas_parts]
  simp only [Prod.mk.injEq, Bool.false_or, true_and]
  omega
theorem checkT_eq (t : Tm) : checkT t = if mayT t = false then 2 else if 2000 < deepT t then 4 else if 20000 < t.size then 3 else 0 := by
  unfold checkT
  rw [msT_eq]
  simp only []
  cases mayT t
  · simp
  · have h1 : ((2000 : Int) < (deepT t : Int)) ↔ 2000 < deepT t := by omega
    have h2 : ((20000 : Int) < (t.size : Int)) ↔ 20000 < t.size := by omega
    simp only [h1, h2]
    simp
mutual
theorem deep_le : ∀ t : Tm, deepT t ≤ t.size
  | .mk k n s a => by have := deepL_le a; simp only [deepT, Tm.size]; omega
theorem deepL_le : ∀ l : List Tm, deepL l ≤ sizeL l
  | [] => by simp [deepL, sizeL]
  | t :: l => by have := deep_le t; have := deepL_le l; simp only [deepL, sizeL]; omega
end
end Go.Proofs.YtkhchmgdaolojaaDoor.Tms
namespace Go.Proofs.YtkhchmgdaolojaaDoor.Tms
open Go Go.RowKit
set_option linter.unusedVariables false

mutual
def arT : Tm → Bool
  | .mk _ _ _ a => decide (a.length ≤ 7) && arL a
def arL : List Tm → Bool
  | [] => true
  | t :: l => arT t && arL l
end
theorem atomA_may : mayT atomA = true := by decide +kernel
mutual
theorem mend_may : ∀ t : Tm, arT t = true → mayT (mendT t) = true
  | .mk k n s a, h => by
    simp only [arT, Bool.and_eq_true, decide_eq_true_eq] at h
    have hl := mendL_may a h.2
    unfold mendT
    by_cases h1 : 20 < s.size
    · rw [if_pos h1]; exact atomA_may
    rw [if_neg h1]
    by_cases k1 : k = 1
    · rw [if_pos k1]
      have : (0 : Int) ≤ max 0 n := by omega
      simp [mayT, mayTL, mayB, this]
    rw [if_neg k1]
    by_cases k2 : k = 2
    · rw [if_pos k2]; simp [mayT, mayTL, mayB]
    rw [if_neg k2]
    by_cases k3 : k = 3
    · rw [if_pos k3]
      have : s.size ≤ 1000 := by omega
      simp [mayT, mayTL, mayB, this]
    rw [if_neg k3]
    by_cases k4 : k = 4
    · rw [if_pos k4]
      by_cases ha : a.length = 0
      · rw [if_pos ha]; exact atomA_may
      rw [if_neg ha]
      have h2 : (mendL a).length = a.length := by rw [mendL_map]; simp
      have h3 : s.size ≤ 1000 := by omega
      have h4 : 1 ≤ a.length := by omega
      have h5 : a.length ≤ 255 := by omega
      simp only [mayT, hl, Bool.and_true, h2]
      simp [mayB, h3, h4, h5]
    · rw [if_neg k4]; exact atomA_may
theorem mendL_may : ∀ l : List Tm, arL l = true → mayTL (mendL l) = true
  | [], _ => by simp [mendL, mayTL]
  | t :: l, h => by
    simp only [arL, Bool.and_eq_true] at h
    simp [mendL, mayTL, mend_may t h.1, mendL_may l h.2]
end
theorem check_may {t : Tm} (h : checkT t = 0) : mayT t = true := by
  rw [checkT_eq] at h
  cases hm : mayT t
  · rw [hm] at h; simp at h
  · rfl
end Go.Proofs.YtkhchmgdaolojaaDoor.Tms
