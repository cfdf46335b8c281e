
/-
  Layer 12: ArithParts and ArithNests, walked over the program (printed by gen_arh.py).
-/
import Derived.Test.YtibjcfbilkkmkaaArg
namespace Go.Proofs.Ytibjcfbilkkmkaa.Tms
open Go Go.RowKit Go.Proofs.Ytibjcfbilkkmkaa.Reg Go.Proofs.Ytibjcfbilkkmkaa.Maps Go.Proofs.Ytibjcfbilkkmkaa.Num
set_option linter.unusedVariables false
set_option linter.unusedSimpArgs false

/-- a small term that may be: Eval is eval -/
theorem evalT_may {t : Tm} (h : mayT t = true) (hs : t.size ≤ 2000) : evalT t = evT t := if_neg (by rw [check_zero h hs]; decide)
theorem comp2_may {s : ByteArray} {A B : Tm} (hs : s.size ≤ 1000) (hA : mayT A = true) (hB : mayT B = true) : mayT (compT s [A, B]) = true :=
  comp_may hs (by simp) (by simp) (by simp [mayTL, hA, hB])
theorem comp2_size {s : ByteArray} {A B : Tm} : (compT s [A, B]).size = A.size + B.size + 1 := by simp [compT, Tm.size, sizeL]
theorem fit_comp2 {s : ByteArray} {A B : Tm} (hA : fitT A) (hB : fitT B) : fitT (compT s [A, B]) := by simp only [compT, fitT, fitL]; exact ⟨fit_0, hA, hB, trivial⟩
theorem fit_int {n : Int} (h : Fit n) : fitT (intT n) := by simp only [intT, fitT, fitL]; exact ⟨h, trivial⟩
section
variable {s : ByteArray} {A B tA tB : Tm} {nA nB eA eB : Int}
theorem evalT_comp (hs : s.size ≤ 1000) (hA : mayT A = true) (hB : mayT B = true) (h1 : A.size ≤ 900) (h2 : B.size ≤ 900) : evalT (compT s [A, B]) = evT (compT s [A, B]) :=
  evalT_may (comp2_may hs hA hB) (by rw [comp2_size]; omega)
theorem comp_no (hs : s.size ≤ 1000) (hA : mayT A = true) (hB : mayT B = true) (h1 : A.size ≤ 900) (h2 : B.size ≤ 900) (hk : knB s 2 = false) : evalT (compT s [A, B]) = (0, 13, indT s 2) := by
  rw [evalT_comp hs hA hB h1 h2]; exact ev_no (args := [A, B]) (by decide) (by decide) hk
theorem comp_bad1 (hs : s.size ≤ 1000) (hA : mayT A = true) (hB : mayT B = true) (h1 : A.size ≤ 900) (h2 : B.size ≤ 900) (hk : knB s 2 = true) (ha : evalT A = (nA, eA, tA)) (he : eA ≠ 0) : evalT (compT s [A, B]) = (0, eA, tA) := by
  rw [evalT_comp hs hA hB h1 h2]; exact ev2_bad1 (by decide) (by decide) hk (by rw [← evalT_may hA (by omega)]; exact ha) he
theorem comp_bad2 (hs : s.size ≤ 1000) (hA : mayT A = true) (hB : mayT B = true) (h1 : A.size ≤ 900) (h2 : B.size ≤ 900) (hk : knB s 2 = true) (ha : evalT A = (nA, 0, tA)) (hb : evalT B = (nB, eB, tB)) (he : eB ≠ 0) : evalT (compT s [A, B]) = (0, eB, tB) := by
  rw [evalT_comp hs hA hB h1 h2]; exact ev2_bad2 (by decide) (by decide) hk (by rw [← evalT_may hA (by omega)]; exact ha) (by rw [← evalT_may hB (by omega)]; exact hb) he
theorem comp_op (hs : s.size ≤ 1000) (hA : mayT A = true) (hB : mayT B = true) (h1 : A.size ≤ 900) (h2 : B.size ≤ 900) (hk : knB s 2 = true) (ha : evalT A = (nA, 0, tA)) (hb : evalT B = (nB, 0, tB)) : evalT (compT s [A, B]) = ((twoT s nA nB).1, (twoT s nA nB).2, zT) := by
  rw [evalT_comp hs hA hB h1 h2]; exact ev2_op (by decide) (by decide) hk (by rw [← evalT_may hA (by omega)]; exact ha) (by rw [← evalT_may hB (by omega)]; exact hb)
end
theorem eval_int (n : Int) : evalT (intT n) = (n, 0, zT) := (evalT_may (int_may n) (by simp [intT, Tm.size, sizeL])).trans ev_int
theorem int_small (n : Int) : (intT n).size ≤ 900 := by simp [intT, Tm.size, sizeL]
theorem kn_minus : knB (⟨#[45]⟩ : ByteArray) 2 = true := by kernel_rfl
theorem kn_plus : knB (⟨#[43]⟩ : ByteArray) 2 = true := by kernel_rfl
theorem len_minus : ((⟨#[45]⟩ : ByteArray)).size ≤ 1000 := by decide
theorem len_plus : ((⟨#[43]⟩ : ByteArray)).size ≤ 1000 := by decide
theorem two_plus (a b : Int) : twoT (⟨#[43]⟩ : ByteArray) a b = chk (a + b) := by unfold twoT; rw [if_pos rfl]
mutual
theorem ev_tsize : ∀ t : Tm, (evT t).2.2.size ≤ 3
  | .mk k n s a => by
    have hl := evL_tsize a
    have hz : zT.size ≤ 3 := by decide
    by_cases k1 : k = 1
    · subst k1; rw [ev_var]; exact hz
    by_cases k2 : k = 2
    · subst k2; rw [ev_int]; exact hz
    cases hk : knB s a.length with
    | false => rw [ev_no k1 k2 hk]; simp [indT, compT, atomT, intT, Tm.size, sizeL]
    | true =>
      by_cases he : (evL a).2.1 = 0
      · rw [ev_op k1 k2 hk he]; exact hz
      · rw [ev_bad k1 k2 hk he]; exact hl
theorem evL_tsize : ∀ l : List Tm, (evL l).2.2.size ≤ 3
  | [] => by rw [evL_nil]; decide
  | t :: ts => by
    have h1 := ev_tsize t
    have h2 := evL_tsize ts
    by_cases ht : (evT t).2.1 = 0
    · rw [evL_ok ht]; exact h2
    · rw [evL_bad ht]; exact h1
end
theorem eval_tsize (t : Tm) : (evalT t).2.2.size ≤ 3 := by unfold evalT; split; exact (by decide : zT.size ≤ 3); exact ev_tsize t
theorem sameT_me : ∀ t : Tm, sameT t t = true := by
  have key : ∀ N, ∀ t : Tm, t.size ≤ N → sameT t t = true := by
    intro N
    induction N with
    | zero => intro t h; have := size_pos t; omega
    | succ N ih =>
      rintro ⟨k, n, s, a⟩ h
      simp only [Tm.size] at h
      have hl : ∀ l : List Tm, sizeL l ≤ N → sameL l l = true := by
        intro l
        induction l with
        | nil => intro _; rfl
        | cons x l ihl =>
          intro hl
          simp only [sizeL] at hl
          have := size_pos x
          simp only [sameL, ih x (by omega), ihl (by omega), Bool.and_self]
      simp [sameT, hl a (by omega)]
  exact fun t => key _ t (Nat.le_refl _)
/-- Same of a small term and itself -/
theorem same_me {t : Tm} (ht : t.size ≤ 1000) (v v' : Value) (u : World) (h : IsTm u AnyB v t) (h' : IsTm u AnyB v' t) : Calls Try.prog 18 #[v, v'] u (Says true u) := by
  have := ref_same _ t t v v' _ _ u (Nat.le_refl _) (by omega) h h'
  rwa [sameT_me] at this
theorem good_any (L : List Pt) (v : Value) (w : World) (hL : L.length ≤ 1000000) (h : PtSl w v L) : Calls Try.prog 24 #[v] w (fun e w' => ∃ v', e = .returned v' ∧ IsTm w' AnyB v' (goodT L) ∧ Below w.heap.size w w') :=
  (ref_good L v w hL h).mono fun e w' ⟨v', he, hi, hb⟩ => ⟨v', he, hi.any, hb⟩
end Go.Proofs.Ytibjcfbilkkmkaa.Tms
