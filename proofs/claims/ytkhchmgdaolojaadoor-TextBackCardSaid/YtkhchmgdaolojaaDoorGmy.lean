
/-
  What measure is told of a term, by recursion on the term: whether all its parts may be, its size, its depth. Plain.
  What is made good may be, in plain Lean.
-/
import Derived.Test.YtkhchmgdaolojaaDoorMsd
import Derived.Test.YtkhchmgdaolojaaDoorMend
import Derived.Test.YtkhchmgdaolojaaDoorGna
namespace Go.Proofs.YtkhchmgdaolojaaDoor.Tms
open Go Go.RowKit
set_option linter.unusedVariables false

mutual
def mayT : Tm → Bool
  | .mk k n s a => mayB k n s a.length && mayTL a
def mayTL : List Tm → Bool
  | [] => true
  | t :: l => mayT t && mayTL l
end
mutual
def deepT : Tm → Nat
  | .mk _ _ _ a => deepL a + 1
def deepL : List Tm → Nat
  | [] => 0
  | t :: l => max (deepT t) (deepL l)
end
mutual
theorem meas_parts : ∀ (t : Tm) (st : Bool × Int × Int) (d : Int), meas st (parts d t) = (st.1 || !mayT t, st.2.1 + t.size, max st.2.2 (d - 1 + deepT t))
  | .mk k n s a, st, d => by
    rw [parts]
    simp only [meas]
    have h := meas_partsL a (st.1 || !mayB k n s a.length, st.2.1 + 1, max st.2.2 d) (d + 1) (by simp only []; omega)
    show meas (st.1 || !mayB k n s a.length, st.2.1 + 1, max st.2.2 d) (partsL (d + 1) a) = _
    rw [h]
    simp only [mayT, Tm.size, deepT, Prod.mk.injEq]
    refine ⟨?_, ?_, ?_⟩
    · cases st.1 <;> cases mayB k n s a.length <;> cases mayTL a <;> rfl
    · omega
    · omega
theorem meas_partsL : ∀ (l : List Tm) (st : Bool × Int × Int) (d : Int), d - 1 ≤ st.2.2 → meas st (partsL d l) = (st.1 || !mayTL l, st.2.1 + sizeL l, max st.2.2 (d - 1 + deepL l))
  | [], st, d, hd => by
    simp only [partsL, meas, mayTL, sizeL, deepL, Bool.not_true, Bool.or_false]
    obtain ⟨b, x, y⟩ := st
    simp only [Prod.mk.injEq, true_and] at hd ⊢
    omega
  | t :: l, st, d, hd => by
    rw [partsL, meas_app, meas_parts t st d, meas_partsL l _ d (by simp only []; omega)]
    simp only [mayTL, sizeL, deepL, Prod.mk.injEq]
    refine ⟨?_, ?_, ?_⟩
    · cases st.1 <;> cases mayT t <;> cases mayTL l <;> rfl
    · omega
    · omega
end
theorem msT_eq (t : Tm) : msT t = (!mayT t, (t.size : Int), (deepT t : Int)) := by
  unfold msT
  rw [meas_parts]
  simp only [Prod.mk.injEq, Bool.false_or, true_and]
  omega
theorem checkT_eq (t : Tm) : checkT t = if mayT t = false then 2 else if 2000 < deepT t then 4 else if 20000 < t.size then 3 else 0 := by
  unfold checkT
  rw [msT_eq]
  simp only []
  cases mayT t
  · simp
  · have h1 : ((2000 : Int) < (deepT t : Int)) ↔ 2000 < deepT t := by omega
    have h2 : ((20000 : Int) < (t.size : Int)) ↔ 20000 < t.size := by omega
    simp only [h1, h2]
    simp
mutual
theorem deep_le : ∀ t : Tm, deepT t ≤ t.size
  | .mk k n s a => by have := deepL_le a; simp only [deepT, Tm.size]; omega
theorem deepL_le : ∀ l : List Tm, deepL l ≤ sizeL l
  | [] => by simp [deepL, sizeL]
  | t :: l => by have := deep_le t; have := deepL_le l; simp only [deepL, sizeL]; omega
end
end Go.Proofs.YtkhchmgdaolojaaDoor.Tms
namespace Go.Proofs.YtkhchmgdaolojaaDoor.Tms
open Go Go.RowKit
set_option linter.unusedVariables false

mutual
def arT : Tm → Bool
  | .mk _ _ _ a => decide (a.length ≤ 7) && arL a
def arL : List Tm → Bool
  | [] => true
  | t :: l => arT t && arL l
end
theorem arL_app : ∀ l m, arL (l ++ m) = (arL l && arL m)
  | [], m => by simp [arL]
  | t :: l, m => by simp [arL, arL_app l m, Bool.and_assoc]
theorem ofTo_ar {g : List Pt → Tm × Nat} (hg : ∀ l, arT (g l).1 = true) (l : List Pt) : ∀ k, arL (ofTo g l k).1 = true
  | 0 => by simp [ofTo, arL]
  | k + 1 => by simp [ofTo, arL_app, arL, ofTo_ar hg l k, hg]
theorem ofN_ar : ∀ (f : Nat) (l : List Pt), arT (ofN f l).1 = true
  | 0, l => by simp [ofN, atomA, atomT, arT, arL]
  | f + 1, [] => by simp [ofN, atomA, atomT, arT, arL]
  | f + 1, p :: l => by
    simp only [ofN, arT, ofTo_len, ofTo_ar (ofN_ar f), Bool.and_true, decide_eq_true_eq]
    omega
theorem atomA_may : mayT atomA = true := by decide +kernel
theorem empty_bytes {s : ByteArray} (h : s.size = 0) : s.toList.isEmpty = true := by
  have : s = ⟨#[]⟩ := by
    obtain ⟨⟨l⟩⟩ := s
    cases l with
    | nil => rfl
    | cons x l => simp [ByteArray.size] at h
  subst this
  decide +kernel
theorem nil_empty : ((⟨#[]⟩ : ByteArray).toList.isEmpty) = true := empty_bytes rfl
mutual
theorem mend_may : ∀ t : Tm, arT t = true → mayT (mendT t) = true
  | .mk k n s a, h => by
    simp only [arT, Bool.and_eq_true, decide_eq_true_eq] at h
    have hl := mendL_may a h.2
    unfold mendT
    by_cases h1 : 20 < s.size
    · rw [if_pos h1]; exact atomA_may
    rw [if_neg h1]
    by_cases k1 : k = 1
    · rw [if_pos k1]
      have : (0 : Int) ≤ max 0 n := by omega
      simp [mayT, mayTL, mayB, this]
    rw [if_neg k1]
    by_cases k2 : k = 2
    · rw [if_pos k2]; simp [mayT, mayTL, mayB]
    rw [if_neg k2]
    by_cases k3 : k = 3
    · rw [if_pos k3]
      have : s.size ≤ 1000 := by omega
      simp [mayT, mayTL, mayB, this]
    rw [if_neg k3]
    by_cases k4 : k = 4
    · rw [if_pos k4]
      by_cases ha : a.length = 0
      · rw [if_pos ha]; exact atomA_may
      rw [if_neg ha]
      have h2 : (mendL a).length = a.length := by rw [mendL_map]; simp
      have h3 : s.size ≤ 1000 := by omega
      have h4 : 1 ≤ a.length := by omega
      have h5 : a.length ≤ 255 := by omega
      simp only [mayT, hl, Bool.and_true, h2]
      simp [mayB, h3, h4, h5]
    · rw [if_neg k4]; exact atomA_may
theorem mendL_may : ∀ l : List Tm, arL l = true → mayTL (mendL l) = true
  | [], _ => by simp [mendL, mayTL]
  | t :: l, h => by
    simp only [arL, Bool.and_eq_true] at h
    simp [mendL, mayTL, mend_may t h.1, mendL_may l h.2]
end
theorem good_may (L : List Pt) : mayT (goodT L) = true := mend_may _ (ofN_ar _ _)

theorem atom_may {s : ByteArray} (h : s.size ≤ 1000) : mayT (atomT s) = true := by simp [atomT, mayT, mayTL, mayB, h]
theorem comp_may {s : ByteArray} {l : List Tm} (h : s.size ≤ 1000) (h1 : l ≠ []) (h2 : l.length ≤ 255) (hl : mayTL l = true) : mayT (compT s l) = true := by
  have h3 : 1 ≤ l.length := by cases l; exact absurd rfl h1; simp
  simp [compT, mayT, hl, mayB, h]
  omega
theorem int_may (n : Int) : mayT (intT n) = true := by simp [intT, mayT, mayTL, mayB]
theorem check_zero {t : Tm} (h : mayT t = true) (hs : t.size ≤ 2000) : checkT t = 0 := by
  have := deep_le t
  rw [checkT_eq, h, if_neg (by simp), if_neg (by omega), if_neg (by omega)]
theorem check_may {t : Tm} (h : checkT t = 0) : mayT t = true := by
  rw [checkT_eq] at h
  cases hm : mayT t
  · rw [hm] at h; simp at h
  · rfl
theorem may_kind {t : Tm} (h : mayT t = true) : t.k = 1 ∨ t.k = 2 ∨ t.k = 3 ∨ t.k = 4 := by
  obtain ⟨k, n, s, a⟩ := t
  simp only [mayT, Bool.and_eq_true, mayB] at h
  simp only [Tm.k]
  by_cases h1 : k = 1
  · exact .inl h1
  by_cases h2 : k = 2
  · exact .inr (.inl h2)
  by_cases h3 : k = 3
  · exact .inr (.inr (.inl h3))
  by_cases h4 : k = 4
  · exact .inr (.inr (.inr h4))
  simp_all
theorem may_arg {t x : Tm} (h : mayT t = true) (hx : x ∈ t.args) : mayT x = true := by
  obtain ⟨k, n, s, a⟩ := t
  simp only [mayT, Bool.and_eq_true] at h
  simp only [Tm.args] at hx
  have key : ∀ l : List Tm, mayTL l = true → x ∈ l → mayT x = true := by
    intro l
    induction l with
    | nil => simp
    | cons y l ih =>
      intro h1 h2
      simp only [mayTL, Bool.and_eq_true] at h1
      rcases List.mem_cons.1 h2 with rfl | h2
      · exact h1.1
      · exact ih h1.2 h2
  exact key a h.2 hx
theorem may_s {t : Tm} (h : mayT t = true) (h4 : t.k = 4) : t.s.size ≤ 1000 := by
  obtain ⟨k, n, s, a⟩ := t
  simp only [Tm.k] at h4
  subst h4
  simp only [mayT, Bool.and_eq_true, mayB] at h
  simp only [Tm.s]
  simp at h
  exact h.1.2.1
theorem may_var {t : Tm} (h : mayT t = true) (k1 : t.k = 1) : t.args = [] := by
  obtain ⟨k, n, s, a⟩ := t
  simp only [Tm.k] at k1
  subst k1
  simp only [mayT, Bool.and_eq_true, mayB] at h
  simp only [Tm.args]
  simp at h
  exact h.1.2.2
abbrev aggT (t : Tm) (a : Option Addr) (c : Nat) : Value := .agg #[.int .i64 t.k, .int .i64 t.n, .string t.s, .slice a t.args.length c]
abbrev rowT (t : Tm) (a : Option Addr) (c : Nat) : Obj := .cells #[.int .i64 t.k, .int .i64 t.n, .string t.s, .slice a t.args.length c] 28 (0, 0)
theorem below_new (w : World) (o : Obj) : Below w.heap.size w (w.alloc o) := (Below.refl _ _).alloc (Nat.le_refl _) _
end Go.Proofs.YtkhchmgdaolojaaDoor.Tms
