
/-
  Layer 12: ArithParts and ArithNests, walked over the program (printed by gen_arh.py).
-/
import Derived.Test.YtohfgfmekciekaaArg
namespace Go.Proofs.Ytohfgfmekciekaa.Tms
open Go Go.RowKit Go.Proofs.Ytohfgfmekciekaa.Reg Go.Proofs.Ytohfgfmekciekaa.Maps Go.Proofs.Ytohfgfmekciekaa.Num
set_option linter.unusedVariables false
set_option linter.unusedSimpArgs false

/-- a small term that may be: Eval is eval -/
theorem evalT_may {t : Tm} (h : mayT t = true) (hs : t.size ≤ 2000) : evalT t = evT t := if_neg (by rw [check_zero h hs]; decide)
theorem comp2_may {s : ByteArray} {A B : Tm} (hs : s.size ≤ 1000) (hA : mayT A = true) (hB : mayT B = true) : mayT (compT s [A, B]) = true :=
  comp_may hs (by simp) (by simp) (by simp [mayTL, hA, hB])
theorem comp2_size {s : ByteArray} {A B : Tm} : (compT s [A, B]).size = A.size + B.size + 1 := by simp [compT, Tm.size, sizeL]
theorem fit_comp2 {s : ByteArray} {A B : Tm} (hA : fitT A) (hB : fitT B) : fitT (compT s [A, B]) := by simp only [compT, fitT, fitL]; exact ⟨fit_0, hA, hB, trivial⟩
theorem fit_int {n : Int} (h : Fit n) : fitT (intT n) := by simp only [intT, fitT, fitL]; exact ⟨h, trivial⟩
section
variable {s : ByteArray} {A B tA tB : Tm} {nA nB eA eB : Int}
theorem evalT_comp (hs : s.size ≤ 1000) (hA : mayT A = true) (hB : mayT B = true) (h1 : A.size ≤ 900) (h2 : B.size ≤ 900) : evalT (compT s [A, B]) = evT (compT s [A, B]) :=
  evalT_may (comp2_may hs hA hB) (by rw [comp2_size]; omega)
theorem comp_no (hs : s.size ≤ 1000) (hA : mayT A = true) (hB : mayT B = true) (h1 : A.size ≤ 900) (h2 : B.size ≤ 900) (hk : knB s 2 = false) : evalT (compT s [A, B]) = (0, 13, indT s 2) := by
  rw [evalT_comp hs hA hB h1 h2]; exact ev_no (args := [A, B]) (by decide) (by decide) hk
theorem comp_bad1 (hs : s.size ≤ 1000) (hA : mayT A = true) (hB : mayT B = true) (h1 : A.size ≤ 900) (h2 : B.size ≤ 900) (hk : knB s 2 = true) (ha : evalT A = (nA, eA, tA)) (he : eA ≠ 0) : evalT (compT s [A, B]) = (0, eA, tA) := by
  rw [evalT_comp hs hA hB h1 h2]; exact ev2_bad1 (by decide) (by decide) hk (by rw [← evalT_may hA (by omega)]; exact ha) he
theorem comp_bad2 (hs : s.size ≤ 1000) (hA : mayT A = true) (hB : mayT B = true) (h1 : A.size ≤ 900) (h2 : B.size ≤ 900) (hk : knB s 2 = true) (ha : evalT A = (nA, 0, tA)) (hb : evalT B = (nB, eB, tB)) (he : eB ≠ 0) : evalT (compT s [A, B]) = (0, eB, tB) := by
  rw [evalT_comp hs hA hB h1 h2]; exact ev2_bad2 (by decide) (by decide) hk (by rw [← evalT_may hA (by omega)]; exact ha) (by rw [← evalT_may hB (by omega)]; exact hb) he
theorem comp_op (hs : s.size ≤ 1000) (hA : mayT A = true) (hB : mayT B = true) (h1 : A.size ≤ 900) (h2 : B.size ≤ 900) (hk : knB s 2 = true) (ha : evalT A = (nA, 0, tA)) (hb : evalT B = (nB, 0, tB)) : evalT (compT s [A, B]) = ((twoT s nA nB).1, (twoT s nA nB).2, zT) := by
  rw [evalT_comp hs hA hB h1 h2]; exact ev2_op (by decide) (by decide) hk (by rw [← evalT_may hA (by omega)]; exact ha) (by rw [← evalT_may hB (by omega)]; exact hb)
end
theorem eval_int (n : Int) : evalT (intT n) = (n, 0, zT) := (evalT_may (int_may n) (by simp [intT, Tm.size, sizeL])).trans ev_int
theorem int_small (n : Int) : (intT n).size ≤ 900 := by simp [intT, Tm.size, sizeL]
theorem kn_minus : knB (⟨#[45]⟩ : ByteArray) 2 = true := by kernel_rfl
theorem kn_plus : knB (⟨#[43]⟩ : ByteArray) 2 = true := by kernel_rfl
theorem len_minus : ((⟨#[45]⟩ : ByteArray)).size ≤ 1000 := by decide
theorem len_plus : ((⟨#[43]⟩ : ByteArray)).size ≤ 1000 := by decide
theorem two_plus (a b : Int) : twoT (⟨#[43]⟩ : ByteArray) a b = chk (a + b) := by unfold twoT; rw [if_pos rfl]
mutual
theorem ev_tsize : ∀ t : Tm, (evT t).2.2.size ≤ 3
  | .mk k n s a => by
    have hl := evL_tsize a
    have hz : zT.size ≤ 3 := by decide
    by_cases k1 : k = 1
    · subst k1; rw [ev_var]; exact hz
    by_cases k2 : k = 2
    · subst k2; rw [ev_int]; exact hz
    cases hk : knB s a.length with
    | false => rw [ev_no k1 k2 hk]; simp [indT, compT, atomT, intT, Tm.size, sizeL]
    | true =>
      by_cases he : (evL a).2.1 = 0
      · rw [ev_op k1 k2 hk he]; exact hz
      · rw [ev_bad k1 k2 hk he]; exact hl
theorem evL_tsize : ∀ l : List Tm, (evL l).2.2.size ≤ 3
  | [] => by rw [evL_nil]; decide
  | t :: ts => by
    have h1 := ev_tsize t
    have h2 := evL_tsize ts
    by_cases ht : (evT t).2.1 = 0
    · rw [evL_ok ht]; exact h2
    · rw [evL_bad ht]; exact h1
end
theorem eval_tsize (t : Tm) : (evalT t).2.2.size ≤ 3 := by unfold evalT; split; exact (by decide : zT.size ≤ 3); exact ev_tsize t
theorem sameT_me : ∀ t : Tm, sameT t t = true := by
  have key : ∀ N, ∀ t : Tm, t.size ≤ N → sameT t t = true := by
    intro N
    induction N with
    | zero => intro t h; have := size_pos t; omega
    | succ N ih =>
      rintro ⟨k, n, s, a⟩ h
      simp only [Tm.size] at h
      have hl : ∀ l : List Tm, sizeL l ≤ N → sameL l l = true := by
        intro l
        induction l with
        | nil => intro _; rfl
        | cons x l ihl =>
          intro hl
          simp only [sizeL] at hl
          have := size_pos x
          simp only [sameL, ih x (by omega), ihl (by omega), Bool.and_self]
      simp [sameT, hl a (by omega)]
  exact fun t => key _ t (Nat.le_refl _)
/-- Same of a small term and itself -/
theorem same_me {t : Tm} (ht : t.size ≤ 1000) (v v' : Value) (u : World) (h : IsTm u AnyB v t) (h' : IsTm u AnyB v' t) : Calls Try.prog 14 #[v, v'] u (Says true u) := by
  have := ref_same _ t t v v' _ _ u (Nat.le_refl _) (by omega) h h'
  rwa [sameT_me] at this
theorem good_any (L : List Pt) (v : Value) (w : World) (hL : L.length ≤ 1000000) (h : PtSl w v L) : Calls Try.prog 9 #[v] w (fun e w' => ∃ v', e = .returned v' ∧ IsTm w' AnyB v' (goodT L) ∧ Below w.heap.size w w') :=
  (ref_good L v w hL h).mono fun e w' ⟨v', he, hi, hb⟩ => ⟨v', he, hi.any, hb⟩
set_option maxRecDepth 100000 in
set_option maxHeartbeats 4000000 in
theorem law_parts (L M : List Pt) (v1 v2 : Value) (w : World) (h1 : PtSl w v1 L) (h2 : PtSl w v2 M) (f1 : ∀ p ∈ L, Fit p.n) (f2 : ∀ p ∈ M, Fit p.n) : Calls Try.prog 4 #[v1, v2] w (Says true w) := by
  obtain ⟨a1, c1, rfl, hc1, hm1⟩ := h1.form
  obtain ⟨a2, c2, rfl, hc2, hm2⟩ := h2.form
  have H1 := Lib.hid h1
  have H2 := Lib.hid h2
  have F1 := Lib.hid (good_fit f1)
  have F2 := Lib.hid (good_fit f2)
  clear h1 h2 f1 f2
  by_cases g1 : 60 < L.length
  · have d1 : decide (60 < (L.length : Int)) = true := by simp; omega
    go_enter Try.func4, Try.ntmps4
    go_wp2_with (first
      | (go_at_call 7; refine (l12_alive _).mono ?_; rintro e1 w1 ⟨rfl, hb1⟩; have HB := Lib.hid hb1; clear hb1)
      | (go_at_call 8; refine (ref_great L _ _ (H1.out.below HB.out)).mono ?_; rintro e2 w2 ⟨rfl, rfl⟩))
    go_ret
    exact ⟨rfl, HB.out⟩
  have d1 : decide (60 < (L.length : Int)) = false := by simp; omega
  by_cases g2 : 60 < M.length
  · have d2 : decide (60 < (M.length : Int)) = true := by simp; omega
    go_enter Try.func4, Try.ntmps4
    go_wp2_with fail
    refine (l12_alive _).mono ?_; rintro e1 w1 ⟨rfl, hb1⟩; have HB := Lib.hid hb1; clear hb1
    go_wp2_with fail
    refine (ref_great L _ _ (H1.out.below HB.out)).mono ?_; rintro e2 w2 ⟨rfl, rfl⟩
    go_wp2_with fail
    refine (ref_great M _ _ (H2.out.below HB.out)).mono ?_; rintro e2 w2 ⟨rfl, rfl⟩
    go_wp2
    go_ret
    exact ⟨rfl, HB.out⟩
  have d2 : decide (60 < (M.length : Int)) = false := by simp; omega
  have SA := goodT_size L
  have SB := goodT_size M
  have MA := Lib.hid (good_may L)
  have MB := Lib.hid (good_may M)
  replace SA : (goodT L).size ≤ 900 := by omega
  replace SB : (goodT M).size ≤ 900 := by omega
  go_enter Try.func4, Try.ntmps4
  go_wp2_with fail
  refine (l12_alive _).mono ?_; rintro e1 w1 ⟨rfl, hb1⟩; have HB := Lib.hid hb1; clear hb1
  go_wp2_with fail
  refine (ref_great L _ _ (H1.out.below HB.out)).mono ?_; rintro e2 w2 ⟨rfl, rfl⟩
  go_wp2_with fail
  refine (ref_great M _ _ (H2.out.below HB.out)).mono ?_; rintro e2 w2 ⟨rfl, rfl⟩
  go_wp2_with fail
  refine (good_any L _ _ (by omega) (H1.out.below HB.out)).mono ?_
  rintro e3 w3 ⟨v3, rfl, hi3, hb3⟩
  replace HB := Lib.hid (HB.out.trans (hb3.mono HB.out.size))
  have HA := Lib.hid hi3
  clear hi3 hb3 H1
  generalize goodT L = A at *
  obtain ⟨aA, cA, rfl⟩ := HA.out.form
  go_wp2_with fail
  refine (good_any M _ _ (by omega) (H2.out.below HB.out)).mono ?_
  rintro e4 w4 ⟨v4, rfl, hi4, hb4⟩
  replace HB := Lib.hid (HB.out.trans (hb4.mono HB.out.size))
  replace HA := Lib.hid (HA.out.below hb4)
  have HC := Lib.hid hi4
  clear hi4 hb4 H2
  generalize goodT M = B at *
  obtain ⟨aC, cC, rfl⟩ := HC.out.form
  go_upto_region 6 with fail
  obtain ⟨t0, t1, tsz, tbl⟩ := two w4 (.cells #[.int .i64 A.k, .int .i64 A.n, .string A.s, .slice aA A.args.length cA] 27 (0, 0)) (.cells #[.int .i64 B.k, .int .i64 B.n, .string B.s, .slice aC B.args.length cC] 27 (0, 0))
  have HR1 := Lib.hid t0
  have HR2 := Lib.hid t1
  replace HA := Lib.hid (HA.out.below tbl)
  replace HC := Lib.hid (HC.out.below tbl)
  replace HB := Lib.hid (HB.out.trans (tbl.mono HB.out.size))
  clear t0 t1 tsz tbl
  generalize (w4.alloc (.cells #[.int .i64 A.k, .int .i64 A.n, .string A.s, .slice aA A.args.length cA] 27 (0, 0))).alloc (.cells #[.int .i64 B.k, .int .i64 B.n, .string B.s, .slice aC B.args.length cC] 27 (0, 0)) = W at *
  obtain ⟨x0, x1, x2, x3⟩ := row4 HR1.out
  have hz1 := eval_tsize A
  have hz2 := eval_tsize B
  have hg1 := eval_good F1.out
  have hg2 := eval_good F2.out
  go_wp2_with fail
  clear x0 x1 x2 x3
  refine (go_EvalA A _ _ (by omega) F1.out HA.out).mono ?_
  rintro ew5 w5 ⟨vw5, rfl, hiq, hbq⟩
  replace HR1 := Lib.hid (row_on HR1.out hbq)
  replace HR2 := Lib.hid (row_on HR2.out hbq)
  replace HA := Lib.hid (HA.out.below hbq)
  replace HC := Lib.hid (HC.out.below hbq)
  replace HB := Lib.hid (HB.out.trans (hbq.mono HB.out.size))
  generalize heA : evalT A = rA at hiq ⊢
  obtain ⟨qH5, rfl, hiq⟩ := hiq
  obtain ⟨nA, eA, tA⟩ := rA
  simp only at hiq ⊢
  have H5 := Lib.hid hiq
  clear hiq hbq
  obtain ⟨aH5, cH5, rfl⟩ := H5.out.form
  rw [heA] at hz1 hg1
  simp only at hz1 hg1
  go_upto_region 7 with fail
  have hbq := below_new w5 (.cells #[.int .i64 tA.k, .int .i64 tA.n, .string tA.s, .slice aH5 tA.args.length cH5] 27 (0, 0))
  have hq := heap_alloc_new w5 (.cells #[.int .i64 tA.k, .int .i64 tA.n, .string tA.s, .slice aH5 tA.args.length cH5] 27 (0, 0))
  have hzq : w5.heap.size < (w5.alloc (.cells #[.int .i64 tA.k, .int .i64 tA.n, .string tA.s, .slice aH5 tA.args.length cH5] 27 (0, 0))).heap.size := by simp
  replace HR1 := Lib.hid (row_on HR1.out hbq)
  replace HR2 := Lib.hid (row_on HR2.out hbq)
  replace HA := Lib.hid (HA.out.below hbq)
  replace HC := Lib.hid (HC.out.below hbq)
  replace H5 := Lib.hid (H5.out.below hbq)
  replace HB := Lib.hid (HB.out.trans (hbq.mono HB.out.size))
  have HW1 := Lib.hid hq
  clear hbq hq
  generalize w5.alloc (.cells #[.int .i64 tA.k, .int .i64 tA.n, .string tA.s, .slice aH5 tA.args.length cH5] 27 (0, 0)) = W5 at *
  obtain ⟨x0, x1, x2, x3⟩ := row4 HR2.out
  have HEA := Lib.hid heA
  clear heA
  go_wp2_with fail
  clear x0 x1 x2 x3
  refine (go_EvalA B _ _ (by omega) F2.out HC.out).mono ?_
  rintro ew6 w6 ⟨vw6, rfl, hiq, hbq⟩
  replace HR1 := Lib.hid (row_on HR1.out hbq)
  replace HR2 := Lib.hid (row_on HR2.out hbq)
  replace HW1 := Lib.hid (row_on HW1.out hbq)
  replace HA := Lib.hid (HA.out.below hbq)
  replace HC := Lib.hid (HC.out.below hbq)
  replace H5 := Lib.hid (H5.out.below hbq)
  replace HB := Lib.hid (HB.out.trans (hbq.mono HB.out.size))
  generalize heB : evalT B = rB at hiq ⊢
  obtain ⟨qH6, rfl, hiq⟩ := hiq
  obtain ⟨nB, eB, tB⟩ := rB
  simp only at hiq ⊢
  have H6 := Lib.hid hiq
  clear hiq hbq
  obtain ⟨aH6, cH6, rfl⟩ := H6.out.form
  rw [heB] at hz2 hg2
  simp only at hz2 hg2
  go_upto_region 8 with fail
  have hbq := below_new w6 (.cells #[.int .i64 tB.k, .int .i64 tB.n, .string tB.s, .slice aH6 tB.args.length cH6] 27 (0, 0))
  have hq := heap_alloc_new w6 (.cells #[.int .i64 tB.k, .int .i64 tB.n, .string tB.s, .slice aH6 tB.args.length cH6] 27 (0, 0))
  have hzq : w6.heap.size < (w6.alloc (.cells #[.int .i64 tB.k, .int .i64 tB.n, .string tB.s, .slice aH6 tB.args.length cH6] 27 (0, 0))).heap.size := by simp
  replace HR1 := Lib.hid (row_on HR1.out hbq)
  replace HR2 := Lib.hid (row_on HR2.out hbq)
  replace HW1 := Lib.hid (row_on HW1.out hbq)
  replace HA := Lib.hid (HA.out.below hbq)
  replace HC := Lib.hid (HC.out.below hbq)
  replace H5 := Lib.hid (H5.out.below hbq)
  replace H6 := Lib.hid (H6.out.below hbq)
  replace HB := Lib.hid (HB.out.trans (hbq.mono HB.out.size))
  have HW2 := Lib.hid hq
  clear hbq hq
  generalize w6.alloc (.cells #[.int .i64 tB.k, .int .i64 tB.n, .string tB.s, .slice aH6 tB.args.length cH6] 27 (0, 0)) = W6 at *
  have HEB := Lib.hid heB
  clear heB
  obtain ⟨x0, x1, x2, x3⟩ := row4 HR1.out
  obtain ⟨y0, y1, y2, y3⟩ := row4 HR2.out
  go_wp2_with fail
  clear x0 x1 x2 x3 y0 y1 y2 y3
  have hs2 := row2 (w := W6) (x := A) (y := B) HA.out HC.out
  have hbq := below_new W6 (.cells #[.int .i64 A.k, .int .i64 A.n, .string A.s, .slice aA A.args.length cA, .int .i64 B.k, .int .i64 B.n, .string B.s, .slice aC B.args.length cC] 27 (0, 0))
  replace HR1 := Lib.hid (row_on HR1.out hbq)
  replace HR2 := Lib.hid (row_on HR2.out hbq)
  replace HW1 := Lib.hid (row_on HW1.out hbq)
  replace HW2 := Lib.hid (row_on HW2.out hbq)
  replace HA := Lib.hid (HA.out.below hbq)
  replace HC := Lib.hid (HC.out.below hbq)
  replace H5 := Lib.hid (H5.out.below hbq)
  replace H6 := Lib.hid (H6.out.below hbq)
  replace HB := Lib.hid (HB.out.trans (hbq.mono HB.out.size))
  have HS : Hid (IsSl (W6.alloc (.cells #[.int .i64 A.k, .int .i64 A.n, .string A.s, .slice aA A.args.length cA, .int .i64 B.k, .int .i64 B.n, .string B.s, .slice aC B.args.length cC] 27 (0, 0))) AnyB (.slice (some ⟨W6.heap.size, 0, none⟩) 2 2) [A, B]) := Lib.hid hs2
  clear hs2 hbq
  generalize W6.alloc (.cells #[.int .i64 A.k, .int .i64 A.n, .string A.s, .slice aA A.args.length cA, .int .i64 B.k, .int .i64 B.n, .string B.s, .slice aC B.args.length cC] 27 (0, 0)) = W7 at *
  refine (l12_fs (⟨#[45]⟩ : ByteArray) _ _ _ HS.out).mono ?_
  rintro ew8 w8 ⟨vw8, rfl, hiq, hbq⟩
  replace HR1 := Lib.hid (row_on HR1.out hbq)
  replace HR2 := Lib.hid (row_on HR2.out hbq)
  replace HW1 := Lib.hid (row_on HW1.out hbq)
  replace HW2 := Lib.hid (row_on HW2.out hbq)
  replace HA := Lib.hid (HA.out.below hbq)
  replace HC := Lib.hid (HC.out.below hbq)
  replace H5 := Lib.hid (H5.out.below hbq)
  replace H6 := Lib.hid (H6.out.below hbq)
  replace HS := Lib.hid (HS.out.below hbq)
  replace HB := Lib.hid (HB.out.trans (hbq.mono HB.out.size))
  have H8 := Lib.hid hiq
  clear hiq hbq
  obtain ⟨aH8, cH8, rfl⟩ := H8.out.form
  clear HS
  by_cases hA0 : eA = 0
  case neg =>
    have HR := Lib.hid (comp_bad1 len_minus MA.out MB.out SA SB kn_minus HEA.out hA0)
    go_wp2_with fail
    refine (go_EvalA (compT (⟨#[45]⟩ : ByteArray) [A, B]) _ _ (by rw [comp2_size]; omega) (fit_comp2 F1.out F2.out) H8.out).mono ?_
    rintro ew9 w9 ⟨vw9, rfl, hiq, hbq⟩
    replace HR1 := Lib.hid (row_on HR1.out hbq)
    replace HR2 := Lib.hid (row_on HR2.out hbq)
    replace HW1 := Lib.hid (row_on HW1.out hbq)
    replace HW2 := Lib.hid (row_on HW2.out hbq)
    replace HA := Lib.hid (HA.out.below hbq)
    replace HC := Lib.hid (HC.out.below hbq)
    replace H5 := Lib.hid (H5.out.below hbq)
    replace H6 := Lib.hid (H6.out.below hbq)
    replace H8 := Lib.hid (H8.out.below hbq)
    replace HB := Lib.hid (HB.out.trans (hbq.mono HB.out.size))
    rw [HR.out] at hiq
    obtain ⟨qH9, rfl, hiq⟩ := hiq
    simp only at hiq ⊢
    have H9 := Lib.hid hiq
    clear hiq hbq
    obtain ⟨aH9, cH9, rfl⟩ := H9.out.form
    go_upto_region 9 with fail
    have hbq := below_new w9 (.cells #[.int .i64 tA.k, .int .i64 tA.n, .string tA.s, .slice aH9 tA.args.length cH9] 27 (0, 0))
    have hq := heap_alloc_new w9 (.cells #[.int .i64 tA.k, .int .i64 tA.n, .string tA.s, .slice aH9 tA.args.length cH9] 27 (0, 0))
    have hzq : w9.heap.size < (w9.alloc (.cells #[.int .i64 tA.k, .int .i64 tA.n, .string tA.s, .slice aH9 tA.args.length cH9] 27 (0, 0))).heap.size := by simp
    replace HR1 := Lib.hid (row_on HR1.out hbq)
    replace HR2 := Lib.hid (row_on HR2.out hbq)
    replace HW1 := Lib.hid (row_on HW1.out hbq)
    replace HW2 := Lib.hid (row_on HW2.out hbq)
    replace HA := Lib.hid (HA.out.below hbq)
    replace HC := Lib.hid (HC.out.below hbq)
    replace H5 := Lib.hid (H5.out.below hbq)
    replace H6 := Lib.hid (H6.out.below hbq)
    replace H8 := Lib.hid (H8.out.below hbq)
    replace H9 := Lib.hid (H9.out.below hbq)
    replace HB := Lib.hid (HB.out.trans (hbq.mono HB.out.size))
    have HW3 := Lib.hid hq
    clear hbq hq
    generalize w9.alloc (.cells #[.int .i64 tA.k, .int .i64 tA.n, .string tA.s, .slice aH9 tA.args.length cH9] 27 (0, 0)) = W9 at *
    have pe : (eA != 0) = true := by simpa using hA0
    have pq : (eA == eA) = true := by simp
    clear hA0
    obtain ⟨x0, x1, x2, x3⟩ := row4 HW1.out
    obtain ⟨y0, y1, y2, y3⟩ := row4 HW3.out
    go_wp2_with (first
      | (go_at_call 14; refine (same_me (by omega) _ _ _ H5.out H9.out).mono ?_; rintro e10 w10 ⟨rfl, hb10⟩; replace HB := Lib.hid (HB.out.trans (hb10.mono HB.out.size)); clear hb10))
    go_ret
    exact ⟨rfl, HB.out⟩
  subst hA0
  by_cases hB0 : eB = 0
  case neg =>
    have HR := Lib.hid (comp_bad2 len_minus MA.out MB.out SA SB kn_minus HEA.out HEB.out hB0)
    go_wp2_with fail
    refine (go_EvalA (compT (⟨#[45]⟩ : ByteArray) [A, B]) _ _ (by rw [comp2_size]; omega) (fit_comp2 F1.out F2.out) H8.out).mono ?_
    rintro ew9 w9 ⟨vw9, rfl, hiq, hbq⟩
    replace HR1 := Lib.hid (row_on HR1.out hbq)
    replace HR2 := Lib.hid (row_on HR2.out hbq)
    replace HW1 := Lib.hid (row_on HW1.out hbq)
    replace HW2 := Lib.hid (row_on HW2.out hbq)
    replace HA := Lib.hid (HA.out.below hbq)
    replace HC := Lib.hid (HC.out.below hbq)
    replace H5 := Lib.hid (H5.out.below hbq)
    replace H6 := Lib.hid (H6.out.below hbq)
    replace H8 := Lib.hid (H8.out.below hbq)
    replace HB := Lib.hid (HB.out.trans (hbq.mono HB.out.size))
    rw [HR.out] at hiq
    obtain ⟨qH9, rfl, hiq⟩ := hiq
    simp only at hiq ⊢
    have H9 := Lib.hid hiq
    clear hiq hbq
    obtain ⟨aH9, cH9, rfl⟩ := H9.out.form
    go_upto_region 9 with fail
    have hbq := below_new w9 (.cells #[.int .i64 tB.k, .int .i64 tB.n, .string tB.s, .slice aH9 tB.args.length cH9] 27 (0, 0))
    have hq := heap_alloc_new w9 (.cells #[.int .i64 tB.k, .int .i64 tB.n, .string tB.s, .slice aH9 tB.args.length cH9] 27 (0, 0))
    have hzq : w9.heap.size < (w9.alloc (.cells #[.int .i64 tB.k, .int .i64 tB.n, .string tB.s, .slice aH9 tB.args.length cH9] 27 (0, 0))).heap.size := by simp
    replace HR1 := Lib.hid (row_on HR1.out hbq)
    replace HR2 := Lib.hid (row_on HR2.out hbq)
    replace HW1 := Lib.hid (row_on HW1.out hbq)
    replace HW2 := Lib.hid (row_on HW2.out hbq)
    replace HA := Lib.hid (HA.out.below hbq)
    replace HC := Lib.hid (HC.out.below hbq)
    replace H5 := Lib.hid (H5.out.below hbq)
    replace H6 := Lib.hid (H6.out.below hbq)
    replace H8 := Lib.hid (H8.out.below hbq)
    replace H9 := Lib.hid (H9.out.below hbq)
    replace HB := Lib.hid (HB.out.trans (hbq.mono HB.out.size))
    have HW3 := Lib.hid hq
    clear hbq hq
    generalize w9.alloc (.cells #[.int .i64 tB.k, .int .i64 tB.n, .string tB.s, .slice aH9 tB.args.length cH9] 27 (0, 0)) = W9 at *
    have pe : (eB != 0) = true := by simpa using hB0
    have pq : (eB == eB) = true := by simp
    clear hB0
    obtain ⟨x0, x1, x2, x3⟩ := row4 HW2.out
    obtain ⟨y0, y1, y2, y3⟩ := row4 HW3.out
    go_wp2_with (first
      | (go_at_call 14; refine (same_me (by omega) _ _ _ H6.out H9.out).mono ?_; rintro e10 w10 ⟨rfl, hb10⟩; replace HB := Lib.hid (HB.out.trans (hb10.mono HB.out.size)); clear hb10))
    go_ret
    exact ⟨rfl, HB.out⟩
  subst hB0
  have HR := Lib.hid (comp_op len_minus MA.out MB.out SA SB kn_minus HEA.out HEB.out)
  go_wp2_with fail
  have HR2b := Lib.hid (comp_op len_minus (int_may nA) (int_may nB) (int_small _) (int_small _) kn_minus (eval_int nA) (eval_int nB))
  generalize twoT (⟨#[45]⟩ : ByteArray) nA nB = rr at *
  obtain ⟨m, er⟩ := rr
  simp only at HR HR2b
  refine (go_EvalA (compT (⟨#[45]⟩ : ByteArray) [A, B]) _ _ (by rw [comp2_size]; omega) (fit_comp2 F1.out F2.out) H8.out).mono ?_
  rintro ew9 w9 ⟨vw9, rfl, hiq, hbq⟩
  replace HR1 := Lib.hid (row_on HR1.out hbq)
  replace HR2 := Lib.hid (row_on HR2.out hbq)
  replace HW1 := Lib.hid (row_on HW1.out hbq)
  replace HW2 := Lib.hid (row_on HW2.out hbq)
  replace HA := Lib.hid (HA.out.below hbq)
  replace HC := Lib.hid (HC.out.below hbq)
  replace H5 := Lib.hid (H5.out.below hbq)
  replace H6 := Lib.hid (H6.out.below hbq)
  replace H8 := Lib.hid (H8.out.below hbq)
  replace HB := Lib.hid (HB.out.trans (hbq.mono HB.out.size))
  rw [HR.out] at hiq
  obtain ⟨qH9, rfl, hiq⟩ := hiq
  simp only at hiq ⊢
  have H9 := Lib.hid hiq
  clear hiq hbq
  obtain ⟨aH9, cH9, rfl⟩ := H9.out.form
  go_upto_region 9 with fail
  have hbq := below_new w9 (.cells #[.int .i64 zT.k, .int .i64 zT.n, .string zT.s, .slice aH9 zT.args.length cH9] 27 (0, 0))
  have hq := heap_alloc_new w9 (.cells #[.int .i64 zT.k, .int .i64 zT.n, .string zT.s, .slice aH9 zT.args.length cH9] 27 (0, 0))
  have hzq : w9.heap.size < (w9.alloc (.cells #[.int .i64 zT.k, .int .i64 zT.n, .string zT.s, .slice aH9 zT.args.length cH9] 27 (0, 0))).heap.size := by simp
  replace HR1 := Lib.hid (row_on HR1.out hbq)
  replace HR2 := Lib.hid (row_on HR2.out hbq)
  replace HW1 := Lib.hid (row_on HW1.out hbq)
  replace HW2 := Lib.hid (row_on HW2.out hbq)
  replace HA := Lib.hid (HA.out.below hbq)
  replace HC := Lib.hid (HC.out.below hbq)
  replace H5 := Lib.hid (H5.out.below hbq)
  replace H6 := Lib.hid (H6.out.below hbq)
  replace H8 := Lib.hid (H8.out.below hbq)
  replace H9 := Lib.hid (H9.out.below hbq)
  replace HB := Lib.hid (HB.out.trans (hbq.mono HB.out.size))
  have HW3 := Lib.hid hq
  clear hbq hq
  generalize w9.alloc (.cells #[.int .i64 zT.k, .int .i64 zT.n, .string zT.s, .slice aH9 zT.args.length cH9] 27 (0, 0)) = W9 at *
  go_wp2_with fail
  refine (l12_i nA _).mono ?_
  rintro eU0 U0 ⟨rfl, hbq⟩
  replace HR1 := Lib.hid (row_on HR1.out hbq)
  replace HR2 := Lib.hid (row_on HR2.out hbq)
  replace HW1 := Lib.hid (row_on HW1.out hbq)
  replace HW2 := Lib.hid (row_on HW2.out hbq)
  replace HW3 := Lib.hid (row_on HW3.out hbq)
  replace HA := Lib.hid (HA.out.below hbq)
  replace HC := Lib.hid (HC.out.below hbq)
  replace H5 := Lib.hid (H5.out.below hbq)
  replace H6 := Lib.hid (H6.out.below hbq)
  replace H8 := Lib.hid (H8.out.below hbq)
  replace H9 := Lib.hid (H9.out.below hbq)
  replace HB := Lib.hid (HB.out.trans (hbq.mono HB.out.size))
  clear hbq
  go_wp2_with fail
  refine (l12_i nB _).mono ?_
  rintro eU1 U1 ⟨rfl, hbq⟩
  replace HR1 := Lib.hid (row_on HR1.out hbq)
  replace HR2 := Lib.hid (row_on HR2.out hbq)
  replace HW1 := Lib.hid (row_on HW1.out hbq)
  replace HW2 := Lib.hid (row_on HW2.out hbq)
  replace HW3 := Lib.hid (row_on HW3.out hbq)
  replace HA := Lib.hid (HA.out.below hbq)
  replace HC := Lib.hid (HC.out.below hbq)
  replace H5 := Lib.hid (H5.out.below hbq)
  replace H6 := Lib.hid (H6.out.below hbq)
  replace H8 := Lib.hid (H8.out.below hbq)
  replace H9 := Lib.hid (H9.out.below hbq)
  replace HB := Lib.hid (HB.out.trans (hbq.mono HB.out.size))
  clear hbq
  go_wp2_with fail
  have hs2 := row2 (w := U1) (x := (intT nA)) (y := (intT nB)) (int_is _ _ _) (int_is _ _ _)
  have hbq := below_new U1 (.cells #[.int .i64 2, .int .i64 nA, .string ⟨#[]⟩, .slice none 0 0, .int .i64 2, .int .i64 nB, .string ⟨#[]⟩, .slice none 0 0] 27 (0, 0))
  replace HR1 := Lib.hid (row_on HR1.out hbq)
  replace HR2 := Lib.hid (row_on HR2.out hbq)
  replace HW1 := Lib.hid (row_on HW1.out hbq)
  replace HW2 := Lib.hid (row_on HW2.out hbq)
  replace HW3 := Lib.hid (row_on HW3.out hbq)
  replace HA := Lib.hid (HA.out.below hbq)
  replace HC := Lib.hid (HC.out.below hbq)
  replace H5 := Lib.hid (H5.out.below hbq)
  replace H6 := Lib.hid (H6.out.below hbq)
  replace H8 := Lib.hid (H8.out.below hbq)
  replace H9 := Lib.hid (H9.out.below hbq)
  replace HB := Lib.hid (HB.out.trans (hbq.mono HB.out.size))
  have HS : Hid (IsSl (U1.alloc (.cells #[.int .i64 2, .int .i64 nA, .string ⟨#[]⟩, .slice none 0 0, .int .i64 2, .int .i64 nB, .string ⟨#[]⟩, .slice none 0 0] 27 (0, 0))) AnyB (.slice (some ⟨U1.heap.size, 0, none⟩) 2 2) [(intT nA), (intT nB)]) := Lib.hid hs2
  clear hs2 hbq
  generalize U1.alloc (.cells #[.int .i64 2, .int .i64 nA, .string ⟨#[]⟩, .slice none 0 0, .int .i64 2, .int .i64 nB, .string ⟨#[]⟩, .slice none 0 0] 27 (0, 0)) = U2 at *
  refine (l12_fs (⟨#[45]⟩ : ByteArray) _ _ _ HS.out).mono ?_
  rintro eU3 U3 ⟨vU3, rfl, hiq, hbq⟩
  replace HR1 := Lib.hid (row_on HR1.out hbq)
  replace HR2 := Lib.hid (row_on HR2.out hbq)
  replace HW1 := Lib.hid (row_on HW1.out hbq)
  replace HW2 := Lib.hid (row_on HW2.out hbq)
  replace HW3 := Lib.hid (row_on HW3.out hbq)
  replace HA := Lib.hid (HA.out.below hbq)
  replace HC := Lib.hid (HC.out.below hbq)
  replace H5 := Lib.hid (H5.out.below hbq)
  replace H6 := Lib.hid (H6.out.below hbq)
  replace H8 := Lib.hid (H8.out.below hbq)
  replace H9 := Lib.hid (H9.out.below hbq)
  replace HS := Lib.hid (HS.out.below hbq)
  replace HB := Lib.hid (HB.out.trans (hbq.mono HB.out.size))
  have K1 := Lib.hid hiq
  clear hiq hbq
  obtain ⟨aK1, cK1, rfl⟩ := K1.out.form
  clear HS
  go_wp2_with fail
  refine (go_EvalA (compT (⟨#[45]⟩ : ByteArray) [intT nA, intT nB]) _ _ (by rw [comp2_size]; have := int_small nA; have := int_small nB; omega) (fit_comp2 (fit_int hg1) (fit_int hg2)) K1.out).mono ?_
  rintro eU4 U4 ⟨vU4, rfl, hiq, hbq⟩
  replace HR1 := Lib.hid (row_on HR1.out hbq)
  replace HR2 := Lib.hid (row_on HR2.out hbq)
  replace HW1 := Lib.hid (row_on HW1.out hbq)
  replace HW2 := Lib.hid (row_on HW2.out hbq)
  replace HW3 := Lib.hid (row_on HW3.out hbq)
  replace HA := Lib.hid (HA.out.below hbq)
  replace HC := Lib.hid (HC.out.below hbq)
  replace H5 := Lib.hid (H5.out.below hbq)
  replace H6 := Lib.hid (H6.out.below hbq)
  replace H8 := Lib.hid (H8.out.below hbq)
  replace H9 := Lib.hid (H9.out.below hbq)
  replace K1 := Lib.hid (K1.out.below hbq)
  replace HB := Lib.hid (HB.out.trans (hbq.mono HB.out.size))
  rw [HR2b.out] at hiq
  obtain ⟨qK2, rfl, hiq⟩ := hiq
  simp only at hiq ⊢
  have K2 := Lib.hid hiq
  clear hiq hbq
  obtain ⟨aK2, cK2, rfl⟩ := K2.out.form
  go_upto_region 14 with fail
  have hbq := below_new U4 (.cells #[.int .i64 zT.k, .int .i64 zT.n, .string zT.s, .slice aK2 zT.args.length cK2] 27 (0, 0))
  have hq := heap_alloc_new U4 (.cells #[.int .i64 zT.k, .int .i64 zT.n, .string zT.s, .slice aK2 zT.args.length cK2] 27 (0, 0))
  have hzq : U4.heap.size < (U4.alloc (.cells #[.int .i64 zT.k, .int .i64 zT.n, .string zT.s, .slice aK2 zT.args.length cK2] 27 (0, 0))).heap.size := by simp
  replace HR1 := Lib.hid (row_on HR1.out hbq)
  replace HR2 := Lib.hid (row_on HR2.out hbq)
  replace HW1 := Lib.hid (row_on HW1.out hbq)
  replace HW2 := Lib.hid (row_on HW2.out hbq)
  replace HW3 := Lib.hid (row_on HW3.out hbq)
  replace HA := Lib.hid (HA.out.below hbq)
  replace HC := Lib.hid (HC.out.below hbq)
  replace H5 := Lib.hid (H5.out.below hbq)
  replace H6 := Lib.hid (H6.out.below hbq)
  replace H8 := Lib.hid (H8.out.below hbq)
  replace H9 := Lib.hid (H9.out.below hbq)
  replace K1 := Lib.hid (K1.out.below hbq)
  replace K2 := Lib.hid (K2.out.below hbq)
  replace HB := Lib.hid (HB.out.trans (hbq.mono HB.out.size))
  clear hbq hq
  generalize U4.alloc (.cells #[.int .i64 zT.k, .int .i64 zT.n, .string zT.s, .slice aK2 zT.args.length cK2] 27 (0, 0)) = U5 at *
  have p1 : (m == m) = true := by simp
  have p2 : (er == er) = true := by simp
  go_wp2
  go_ret
  exact ⟨rfl, HB.out⟩
set_option maxRecDepth 100000 in
set_option maxHeartbeats 4000000 in
theorem law_nests (op : ByteArray) (L M : List Pt) (v1 v2 : Value) (w : World) (h1 : PtSl w v1 L) (h2 : PtSl w v2 M) (f1 : ∀ p ∈ L, Fit p.n) (f2 : ∀ p ∈ M, Fit p.n) : Calls Try.prog 3 #[.string op, v1, v2] w (Says true w) := by
  obtain ⟨a1, c1, rfl, hc1, hm1⟩ := h1.form
  obtain ⟨a2, c2, rfl, hc2, hm2⟩ := h2.form
  have H1 := Lib.hid h1
  have H2 := Lib.hid h2
  have F1 := Lib.hid (good_fit f1)
  have F2 := Lib.hid (good_fit f2)
  clear h1 h2 f1 f2
  by_cases g1 : 60 < L.length
  · have d1 : decide (60 < (L.length : Int)) = true := by simp; omega
    go_enter Try.func3, Try.ntmps3
    go_wp2_with (first
      | (go_at_call 7; refine (l12_alive _).mono ?_; rintro e1 w1 ⟨rfl, hb1⟩; have HB := Lib.hid hb1; clear hb1)
      | (go_at_call 8; refine (ref_great L _ _ (H1.out.below HB.out)).mono ?_; rintro e2 w2 ⟨rfl, rfl⟩))
    go_ret
    exact ⟨rfl, HB.out⟩
  have d1 : decide (60 < (L.length : Int)) = false := by simp; omega
  by_cases g2 : 60 < M.length
  · have d2 : decide (60 < (M.length : Int)) = true := by simp; omega
    go_enter Try.func3, Try.ntmps3
    go_wp2_with fail
    refine (l12_alive _).mono ?_; rintro e1 w1 ⟨rfl, hb1⟩; have HB := Lib.hid hb1; clear hb1
    go_wp2_with fail
    refine (ref_great L _ _ (H1.out.below HB.out)).mono ?_; rintro e2 w2 ⟨rfl, rfl⟩
    go_wp2_with fail
    refine (ref_great M _ _ (H2.out.below HB.out)).mono ?_; rintro e2 w2 ⟨rfl, rfl⟩
    go_wp2
    go_ret
    exact ⟨rfl, HB.out⟩
  have d2 : decide (60 < (M.length : Int)) = false := by simp; omega
  by_cases g3 : 1000 < op.size
  · skip
    go_enter Try.func3, Try.ntmps3
    go_wp2_with fail
    refine (l12_alive _).mono ?_; rintro e1 w1 ⟨rfl, hb1⟩; have HB := Lib.hid hb1; clear hb1
    go_wp2_with fail
    refine (ref_great L _ _ (H1.out.below HB.out)).mono ?_; rintro e2 w2 ⟨rfl, rfl⟩
    go_wp2_with fail
    refine (ref_great M _ _ (H2.out.below HB.out)).mono ?_; rintro e2 w2 ⟨rfl, rfl⟩
    go_wp2
    go_ret
    exact ⟨rfl, HB.out⟩
  have hop : op.size ≤ 1000 := by omega
  have SA := goodT_size L
  have SB := goodT_size M
  have MA := Lib.hid (good_may L)
  have MB := Lib.hid (good_may M)
  replace SA : (goodT L).size ≤ 900 := by omega
  replace SB : (goodT M).size ≤ 900 := by omega
  go_enter Try.func3, Try.ntmps3
  go_wp2_with fail
  refine (l12_alive _).mono ?_; rintro e1 w1 ⟨rfl, hb1⟩; have HB := Lib.hid hb1; clear hb1
  go_wp2_with fail
  refine (ref_great L _ _ (H1.out.below HB.out)).mono ?_; rintro e2 w2 ⟨rfl, rfl⟩
  go_wp2_with fail
  refine (ref_great M _ _ (H2.out.below HB.out)).mono ?_; rintro e2 w2 ⟨rfl, rfl⟩
  go_wp2_with fail
  refine (good_any L _ _ (by omega) (H1.out.below HB.out)).mono ?_
  rintro e3 w3 ⟨v3, rfl, hi3, hb3⟩
  replace HB := Lib.hid (HB.out.trans (hb3.mono HB.out.size))
  have HA := Lib.hid hi3
  clear hi3 hb3 H1
  generalize goodT L = A at *
  obtain ⟨aA, cA, rfl⟩ := HA.out.form
  go_wp2_with fail
  refine (good_any M _ _ (by omega) (H2.out.below HB.out)).mono ?_
  rintro e4 w4 ⟨v4, rfl, hi4, hb4⟩
  replace HB := Lib.hid (HB.out.trans (hb4.mono HB.out.size))
  replace HA := Lib.hid (HA.out.below hb4)
  have HC := Lib.hid hi4
  clear hi4 hb4 H2
  generalize goodT M = B at *
  obtain ⟨aC, cC, rfl⟩ := HC.out.form
  go_upto_region 6 with fail
  obtain ⟨t0, t1, tsz, tbl⟩ := two w4 (.cells #[.int .i64 A.k, .int .i64 A.n, .string A.s, .slice aA A.args.length cA] 27 (0, 0)) (.cells #[.int .i64 B.k, .int .i64 B.n, .string B.s, .slice aC B.args.length cC] 27 (0, 0))
  have HR1 := Lib.hid t0
  have HR2 := Lib.hid t1
  replace HA := Lib.hid (HA.out.below tbl)
  replace HC := Lib.hid (HC.out.below tbl)
  replace HB := Lib.hid (HB.out.trans (tbl.mono HB.out.size))
  clear t0 t1 tsz tbl
  generalize (w4.alloc (.cells #[.int .i64 A.k, .int .i64 A.n, .string A.s, .slice aA A.args.length cA] 27 (0, 0))).alloc (.cells #[.int .i64 B.k, .int .i64 B.n, .string B.s, .slice aC B.args.length cC] 27 (0, 0)) = W at *
  obtain ⟨x0, x1, x2, x3⟩ := row4 HR1.out
  have hg1 := eval_good F1.out
  have hg2 := eval_good F2.out
  go_wp2_with fail
  clear x0 x1 x2 x3
  refine (go_EvalA A _ _ (by omega) F1.out HA.out).mono ?_
  rintro ew5 w5 ⟨vw5, rfl, hiq, hbq⟩
  replace HR1 := Lib.hid (row_on HR1.out hbq)
  replace HR2 := Lib.hid (row_on HR2.out hbq)
  replace HA := Lib.hid (HA.out.below hbq)
  replace HC := Lib.hid (HC.out.below hbq)
  replace HB := Lib.hid (HB.out.trans (hbq.mono HB.out.size))
  generalize heA : evalT A = rA at hiq ⊢
  obtain ⟨qH5, rfl, hiq⟩ := hiq
  obtain ⟨nA, eA, tA⟩ := rA
  simp only at hiq ⊢
  have H5 := Lib.hid hiq
  clear hiq hbq
  obtain ⟨aH5, cH5, rfl⟩ := H5.out.form
  rw [heA] at hg1
  simp only at hg1
  go_upto_region 7 with fail
  have hbq := below_new w5 (.cells #[.int .i64 tA.k, .int .i64 tA.n, .string tA.s, .slice aH5 tA.args.length cH5] 27 (0, 0))
  have hq := heap_alloc_new w5 (.cells #[.int .i64 tA.k, .int .i64 tA.n, .string tA.s, .slice aH5 tA.args.length cH5] 27 (0, 0))
  have hzq : w5.heap.size < (w5.alloc (.cells #[.int .i64 tA.k, .int .i64 tA.n, .string tA.s, .slice aH5 tA.args.length cH5] 27 (0, 0))).heap.size := by simp
  replace HR1 := Lib.hid (row_on HR1.out hbq)
  replace HR2 := Lib.hid (row_on HR2.out hbq)
  replace HA := Lib.hid (HA.out.below hbq)
  replace HC := Lib.hid (HC.out.below hbq)
  replace H5 := Lib.hid (H5.out.below hbq)
  replace HB := Lib.hid (HB.out.trans (hbq.mono HB.out.size))
  clear hbq hq
  generalize w5.alloc (.cells #[.int .i64 tA.k, .int .i64 tA.n, .string tA.s, .slice aH5 tA.args.length cH5] 27 (0, 0)) = W5 at *
  clear H5
  obtain ⟨x0, x1, x2, x3⟩ := row4 HR2.out
  have HEA := Lib.hid heA
  clear heA
  go_wp2_with fail
  clear x0 x1 x2 x3
  refine (go_EvalA B _ _ (by omega) F2.out HC.out).mono ?_
  rintro ew6 w6 ⟨vw6, rfl, hiq, hbq⟩
  replace HR1 := Lib.hid (row_on HR1.out hbq)
  replace HR2 := Lib.hid (row_on HR2.out hbq)
  replace HA := Lib.hid (HA.out.below hbq)
  replace HC := Lib.hid (HC.out.below hbq)
  replace HB := Lib.hid (HB.out.trans (hbq.mono HB.out.size))
  generalize heB : evalT B = rB at hiq ⊢
  obtain ⟨qH6, rfl, hiq⟩ := hiq
  obtain ⟨nB, eB, tB⟩ := rB
  simp only at hiq ⊢
  have H6 := Lib.hid hiq
  clear hiq hbq
  obtain ⟨aH6, cH6, rfl⟩ := H6.out.form
  rw [heB] at hg2
  simp only at hg2
  go_upto_region 8 with fail
  have hbq := below_new w6 (.cells #[.int .i64 tB.k, .int .i64 tB.n, .string tB.s, .slice aH6 tB.args.length cH6] 27 (0, 0))
  have hq := heap_alloc_new w6 (.cells #[.int .i64 tB.k, .int .i64 tB.n, .string tB.s, .slice aH6 tB.args.length cH6] 27 (0, 0))
  have hzq : w6.heap.size < (w6.alloc (.cells #[.int .i64 tB.k, .int .i64 tB.n, .string tB.s, .slice aH6 tB.args.length cH6] 27 (0, 0))).heap.size := by simp
  replace HR1 := Lib.hid (row_on HR1.out hbq)
  replace HR2 := Lib.hid (row_on HR2.out hbq)
  replace HA := Lib.hid (HA.out.below hbq)
  replace HC := Lib.hid (HC.out.below hbq)
  replace H6 := Lib.hid (H6.out.below hbq)
  replace HB := Lib.hid (HB.out.trans (hbq.mono HB.out.size))
  clear hbq hq
  generalize w6.alloc (.cells #[.int .i64 tB.k, .int .i64 tB.n, .string tB.s, .slice aH6 tB.args.length cH6] 27 (0, 0)) = W6 at *
  clear H6
  have HEB := Lib.hid heB
  clear heB
  by_cases hA0 : eA = 0
  case neg =>
    have pe : (eA != 0) = true := by simpa using hA0
    clear hA0
    go_wp2
    go_ret
    exact ⟨rfl, HB.out⟩
  subst hA0
  by_cases hB0 : eB = 0
  case neg =>
    have pe : (eB != 0) = true := by simpa using hB0
    clear hB0
    go_wp2
    go_ret
    exact ⟨rfl, HB.out⟩
  subst hB0
  obtain ⟨x0, x1, x2, x3⟩ := row4 HR1.out
  obtain ⟨y0, y1, y2, y3⟩ := row4 HR2.out
  go_wp2_with fail
  clear x0 x1 x2 x3 y0 y1 y2 y3
  have hs2 := row2 (w := W6) (x := A) (y := B) HA.out HC.out
  have hbq := below_new W6 (.cells #[.int .i64 A.k, .int .i64 A.n, .string A.s, .slice aA A.args.length cA, .int .i64 B.k, .int .i64 B.n, .string B.s, .slice aC B.args.length cC] 27 (0, 0))
  replace HR1 := Lib.hid (row_on HR1.out hbq)
  replace HR2 := Lib.hid (row_on HR2.out hbq)
  replace HA := Lib.hid (HA.out.below hbq)
  replace HC := Lib.hid (HC.out.below hbq)
  replace HB := Lib.hid (HB.out.trans (hbq.mono HB.out.size))
  have HS : Hid (IsSl (W6.alloc (.cells #[.int .i64 A.k, .int .i64 A.n, .string A.s, .slice aA A.args.length cA, .int .i64 B.k, .int .i64 B.n, .string B.s, .slice aC B.args.length cC] 27 (0, 0))) AnyB (.slice (some ⟨W6.heap.size, 0, none⟩) 2 2) [A, B]) := Lib.hid hs2
  clear hs2 hbq
  generalize W6.alloc (.cells #[.int .i64 A.k, .int .i64 A.n, .string A.s, .slice aA A.args.length cA, .int .i64 B.k, .int .i64 B.n, .string B.s, .slice aC B.args.length cC] 27 (0, 0)) = W7 at *
  refine (l12_fs op _ _ _ HS.out).mono ?_
  rintro ew8 w8 ⟨vw8, rfl, hiq, hbq⟩
  replace HR1 := Lib.hid (row_on HR1.out hbq)
  replace HR2 := Lib.hid (row_on HR2.out hbq)
  replace HA := Lib.hid (HA.out.below hbq)
  replace HC := Lib.hid (HC.out.below hbq)
  replace HS := Lib.hid (HS.out.below hbq)
  replace HB := Lib.hid (HB.out.trans (hbq.mono HB.out.size))
  have H8 := Lib.hid hiq
  clear hiq hbq
  obtain ⟨aH8, cH8, rfl⟩ := H8.out.form
  clear HS HR1 HR2
  cases hk : knB op 2 with
  | false =>
    have HR := Lib.hid (comp_no hop MA.out MB.out SA SB hk)
    go_wp2_with fail
    refine (go_EvalA (compT op [A, B]) _ _ (by rw [comp2_size]; omega) (fit_comp2 F1.out F2.out) H8.out).mono ?_
    rintro ew9 w9 ⟨vw9, rfl, hiq, hbq⟩
    replace HA := Lib.hid (HA.out.below hbq)
    replace HC := Lib.hid (HC.out.below hbq)
    replace H8 := Lib.hid (H8.out.below hbq)
    replace HB := Lib.hid (HB.out.trans (hbq.mono HB.out.size))
    rw [HR.out] at hiq
    obtain ⟨qH9, rfl, hiq⟩ := hiq
    simp only at hiq ⊢
    have H9 := Lib.hid hiq
    clear hiq hbq
    obtain ⟨aH9, cH9, rfl⟩ := H9.out.form
    go_upto_region 11 with fail
    have hbq := below_new w9 (.cells #[.int .i64 (indT op 2).k, .int .i64 (indT op 2).n, .string (indT op 2).s, .slice aH9 (indT op 2).args.length cH9] 27 (0, 0))
    have hq := heap_alloc_new w9 (.cells #[.int .i64 (indT op 2).k, .int .i64 (indT op 2).n, .string (indT op 2).s, .slice aH9 (indT op 2).args.length cH9] 27 (0, 0))
    have hzq : w9.heap.size < (w9.alloc (.cells #[.int .i64 (indT op 2).k, .int .i64 (indT op 2).n, .string (indT op 2).s, .slice aH9 (indT op 2).args.length cH9] 27 (0, 0))).heap.size := by simp
    replace HA := Lib.hid (HA.out.below hbq)
    replace HC := Lib.hid (HC.out.below hbq)
    replace H8 := Lib.hid (H8.out.below hbq)
    replace H9 := Lib.hid (H9.out.below hbq)
    replace HB := Lib.hid (HB.out.trans (hbq.mono HB.out.size))
    have HW3 := Lib.hid hq
    clear hbq hq
    generalize w9.alloc (.cells #[.int .i64 (indT op 2).k, .int .i64 (indT op 2).n, .string (indT op 2).s, .slice aH9 (indT op 2).args.length cH9] 27 (0, 0)) = W9 at *
    have HJ : Hid ((twoT op nA nB).2 = 8) := Lib.hid (by have := kn_two op nA nB hg1 hg2; rw [hk] at this; simpa using this)
    clear hk
    go_wp2_with fail
    refine (go_Two op nA nB hg1 hg2 _).mono ?_
    rintro e10 w10 ⟨rfl, hbq⟩
    rw [HJ.out]
    replace HW3 := Lib.hid (row_on HW3.out hbq)
    replace HA := Lib.hid (HA.out.below hbq)
    replace HC := Lib.hid (HC.out.below hbq)
    replace H8 := Lib.hid (H8.out.below hbq)
    replace H9 := Lib.hid (H9.out.below hbq)
    replace HB := Lib.hid (HB.out.trans (hbq.mono HB.out.size))
    clear hbq
    have hat := H9.out.args.at 1 (show 1 < 2 by decide)
    obtain ⟨b0, o0, rfl, -, hta⟩ := hat
    obtain ⟨ax, cx, y0, y1, y2, y3, -, -⟩ := hta.read
    simp only [Nat.one_mul, List.getElem_cons_succ, List.getElem_cons_zero, Nat.add_assoc, Nat.reduceAdd] at y0 y1 y2 y3
    have z1 : w10.cell? ⟨b0, o0 + 5, none⟩ = some (.int .i64 2) := y1
    clear y0 y1 y2 y3
    have HW4 : Hid (w10.heap[w9.heap.size]? = some (.cells #[.int .i64 4, .int .i64 0, .string (⟨#[47]⟩ : ByteArray), .slice (some ⟨b0, o0, none⟩) 2 cH9] 27 (0, 0))) := Lib.hid HW3.out
    obtain ⟨x0, x1, x2, x3⟩ := row4 HW4.out
    go_wp2
    go_ret
    exact ⟨rfl, HB.out⟩
  | true =>
    have HR := Lib.hid (comp_op hop MA.out MB.out SA SB hk HEA.out HEB.out)
    have HTW := Lib.hid (two_g hk hg1 hg2)
    have HJ : Hid ((twoT op nA nB).2 ≠ 8) := Lib.hid HTW.out.1
    have HR3 := Lib.hid (comp_op hop (int_may nA) (int_may nB) (int_small _) (int_small _) hk (eval_int nA) (eval_int nB))
    have HTO := Lib.hid (go_Two op nA nB hg1 hg2)
    generalize hrr : twoT op nA nB = rr at *
    obtain ⟨m, er⟩ := rr
    simp only at HR HR3 HTW HJ HTO
    go_wp2_with fail
    refine (go_EvalA (compT op [A, B]) _ _ (by rw [comp2_size]; omega) (fit_comp2 F1.out F2.out) H8.out).mono ?_
    rintro ew9 w9 ⟨vw9, rfl, hiq, hbq⟩
    replace HA := Lib.hid (HA.out.below hbq)
    replace HC := Lib.hid (HC.out.below hbq)
    replace H8 := Lib.hid (H8.out.below hbq)
    replace HB := Lib.hid (HB.out.trans (hbq.mono HB.out.size))
    rw [HR.out] at hiq
    obtain ⟨qH9, rfl, hiq⟩ := hiq
    simp only at hiq ⊢
    have H9 := Lib.hid hiq
    clear hiq hbq
    obtain ⟨aH9, cH9, rfl⟩ := H9.out.form
    go_upto_region 11 with fail
    have hbq := below_new w9 (.cells #[.int .i64 zT.k, .int .i64 zT.n, .string zT.s, .slice aH9 zT.args.length cH9] 27 (0, 0))
    have hq := heap_alloc_new w9 (.cells #[.int .i64 zT.k, .int .i64 zT.n, .string zT.s, .slice aH9 zT.args.length cH9] 27 (0, 0))
    have hzq : w9.heap.size < (w9.alloc (.cells #[.int .i64 zT.k, .int .i64 zT.n, .string zT.s, .slice aH9 zT.args.length cH9] 27 (0, 0))).heap.size := by simp
    replace HA := Lib.hid (HA.out.below hbq)
    replace HC := Lib.hid (HC.out.below hbq)
    replace H8 := Lib.hid (H8.out.below hbq)
    replace H9 := Lib.hid (H9.out.below hbq)
    replace HB := Lib.hid (HB.out.trans (hbq.mono HB.out.size))
    have HW3 := Lib.hid hq
    clear hbq hq
    generalize w9.alloc (.cells #[.int .i64 zT.k, .int .i64 zT.n, .string zT.s, .slice aH9 zT.args.length cH9] 27 (0, 0)) = W9 at *
    go_wp2_with fail
    refine (HTO.out _).mono ?_
    rintro e10 w10 ⟨rfl, hbq⟩
    replace HW3 := Lib.hid (row_on HW3.out hbq)
    replace HA := Lib.hid (HA.out.below hbq)
    replace HC := Lib.hid (HC.out.below hbq)
    replace H8 := Lib.hid (H8.out.below hbq)
    replace H9 := Lib.hid (H9.out.below hbq)
    replace HB := Lib.hid (HB.out.trans (hbq.mono HB.out.size))
    clear hbq
    have p8 : (er == 8) = false := by have := HJ.out; simpa using this
    go_wp2_with fail
    refine (l12_i nA _).mono ?_
    rintro eU0 U0 ⟨rfl, hbq⟩
    replace HW3 := Lib.hid (row_on HW3.out hbq)
    replace HA := Lib.hid (HA.out.below hbq)
    replace HC := Lib.hid (HC.out.below hbq)
    replace H8 := Lib.hid (H8.out.below hbq)
    replace H9 := Lib.hid (H9.out.below hbq)
    replace HB := Lib.hid (HB.out.trans (hbq.mono HB.out.size))
    clear hbq
    go_wp2_with fail
    refine (l12_i nB _).mono ?_
    rintro eU1 U1 ⟨rfl, hbq⟩
    replace HW3 := Lib.hid (row_on HW3.out hbq)
    replace HA := Lib.hid (HA.out.below hbq)
    replace HC := Lib.hid (HC.out.below hbq)
    replace H8 := Lib.hid (H8.out.below hbq)
    replace H9 := Lib.hid (H9.out.below hbq)
    replace HB := Lib.hid (HB.out.trans (hbq.mono HB.out.size))
    clear hbq
    go_wp2_with fail
    have hs2 := row2 (w := U1) (x := (intT nA)) (y := (intT nB)) (int_is _ _ _) (int_is _ _ _)
    have hbq := below_new U1 (.cells #[.int .i64 2, .int .i64 nA, .string ⟨#[]⟩, .slice none 0 0, .int .i64 2, .int .i64 nB, .string ⟨#[]⟩, .slice none 0 0] 27 (0, 0))
    replace HW3 := Lib.hid (row_on HW3.out hbq)
    replace HA := Lib.hid (HA.out.below hbq)
    replace HC := Lib.hid (HC.out.below hbq)
    replace H8 := Lib.hid (H8.out.below hbq)
    replace H9 := Lib.hid (H9.out.below hbq)
    replace HB := Lib.hid (HB.out.trans (hbq.mono HB.out.size))
    have HS : Hid (IsSl (U1.alloc (.cells #[.int .i64 2, .int .i64 nA, .string ⟨#[]⟩, .slice none 0 0, .int .i64 2, .int .i64 nB, .string ⟨#[]⟩, .slice none 0 0] 27 (0, 0))) AnyB (.slice (some ⟨U1.heap.size, 0, none⟩) 2 2) [(intT nA), (intT nB)]) := Lib.hid hs2
    clear hs2 hbq
    generalize U1.alloc (.cells #[.int .i64 2, .int .i64 nA, .string ⟨#[]⟩, .slice none 0 0, .int .i64 2, .int .i64 nB, .string ⟨#[]⟩, .slice none 0 0] 27 (0, 0)) = U2 at *
    refine (l12_fs op _ _ _ HS.out).mono ?_
    rintro eU3 U3 ⟨vU3, rfl, hiq, hbq⟩
    replace HW3 := Lib.hid (row_on HW3.out hbq)
    replace HA := Lib.hid (HA.out.below hbq)
    replace HC := Lib.hid (HC.out.below hbq)
    replace H8 := Lib.hid (H8.out.below hbq)
    replace H9 := Lib.hid (H9.out.below hbq)
    replace HS := Lib.hid (HS.out.below hbq)
    replace HB := Lib.hid (HB.out.trans (hbq.mono HB.out.size))
    have K1 := Lib.hid hiq
    clear hiq hbq
    obtain ⟨aK1, cK1, rfl⟩ := K1.out.form
    clear HS
    go_wp2_with fail
    refine (l12_i 0 _).mono ?_
    rintro eU4 U4 ⟨rfl, hbq⟩
    replace HW3 := Lib.hid (row_on HW3.out hbq)
    replace HA := Lib.hid (HA.out.below hbq)
    replace HC := Lib.hid (HC.out.below hbq)
    replace H8 := Lib.hid (H8.out.below hbq)
    replace H9 := Lib.hid (H9.out.below hbq)
    replace K1 := Lib.hid (K1.out.below hbq)
    replace HB := Lib.hid (HB.out.trans (hbq.mono HB.out.size))
    clear hbq
    go_wp2_with fail
    have hs2 := row2 (w := U4) (x := (compT op [intT nA, intT nB])) (y := (intT 0)) K1.out (int_is _ _ _)
    have hbq := below_new U4 (.cells #[.int .i64 (compT op [intT nA, intT nB]).k, .int .i64 (compT op [intT nA, intT nB]).n, .string (compT op [intT nA, intT nB]).s, .slice aK1 (compT op [intT nA, intT nB]).args.length cK1, .int .i64 2, .int .i64 0, .string ⟨#[]⟩, .slice none 0 0] 27 (0, 0))
    replace HW3 := Lib.hid (row_on HW3.out hbq)
    replace HA := Lib.hid (HA.out.below hbq)
    replace HC := Lib.hid (HC.out.below hbq)
    replace H8 := Lib.hid (H8.out.below hbq)
    replace H9 := Lib.hid (H9.out.below hbq)
    replace K1 := Lib.hid (K1.out.below hbq)
    replace HB := Lib.hid (HB.out.trans (hbq.mono HB.out.size))
    have HS : Hid (IsSl (U4.alloc (.cells #[.int .i64 (compT op [intT nA, intT nB]).k, .int .i64 (compT op [intT nA, intT nB]).n, .string (compT op [intT nA, intT nB]).s, .slice aK1 (compT op [intT nA, intT nB]).args.length cK1, .int .i64 2, .int .i64 0, .string ⟨#[]⟩, .slice none 0 0] 27 (0, 0))) AnyB (.slice (some ⟨U4.heap.size, 0, none⟩) 2 2) [(compT op [intT nA, intT nB]), (intT 0)]) := Lib.hid hs2
    clear hs2 hbq
    generalize U4.alloc (.cells #[.int .i64 (compT op [intT nA, intT nB]).k, .int .i64 (compT op [intT nA, intT nB]).n, .string (compT op [intT nA, intT nB]).s, .slice aK1 (compT op [intT nA, intT nB]).args.length cK1, .int .i64 2, .int .i64 0, .string ⟨#[]⟩, .slice none 0 0] 27 (0, 0)) = U5 at *
    refine (l12_fs (⟨#[43]⟩ : ByteArray) _ _ _ HS.out).mono ?_
    rintro eU6 U6 ⟨vU6, rfl, hiq, hbq⟩
    replace HW3 := Lib.hid (row_on HW3.out hbq)
    replace HA := Lib.hid (HA.out.below hbq)
    replace HC := Lib.hid (HC.out.below hbq)
    replace H8 := Lib.hid (H8.out.below hbq)
    replace H9 := Lib.hid (H9.out.below hbq)
    replace K1 := Lib.hid (K1.out.below hbq)
    replace HS := Lib.hid (HS.out.below hbq)
    replace HB := Lib.hid (HB.out.trans (hbq.mono HB.out.size))
    have K3 := Lib.hid hiq
    clear hiq hbq
    obtain ⟨aK3, cK3, rfl⟩ := K3.out.form
    clear HS
    go_wp2_with fail
    have hIs : ((compT op [intT nA, intT nB])).size ≤ 900 := by rw [comp2_size]; simp [intT, Tm.size, sizeL]
    have hIm := comp2_may hop (int_may nA) (int_may nB)
    have HOUT : Hid (evalT (compT (⟨#[43]⟩ : ByteArray) [(compT op [intT nA, intT nB]), intT 0]) = (m, er, zT)) := Lib.hid (by
      by_cases h0 : er = 0
      · subst h0
        rw [comp_op len_plus hIm (int_may 0) hIs (int_small _) kn_plus HR3.out (eval_int 0), two_plus, Int.add_zero, chk_in HTW.out.2.2]
      · rw [comp_bad1 len_plus hIm (int_may 0) hIs (int_small _) kn_plus HR3.out h0, show m = 0 from HTW.out.2.1 h0])
    refine (go_EvalA (compT (⟨#[43]⟩ : ByteArray) [(compT op [intT nA, intT nB]), intT 0]) _ _ (by rw [comp2_size]; have := int_small 0; omega) (fit_comp2 (fit_comp2 (fit_int hg1) (fit_int hg2)) (fit_int fit_0)) K3.out).mono ?_
    rintro eU7 U7 ⟨vU7, rfl, hiq, hbq⟩
    replace HW3 := Lib.hid (row_on HW3.out hbq)
    replace HA := Lib.hid (HA.out.below hbq)
    replace HC := Lib.hid (HC.out.below hbq)
    replace H8 := Lib.hid (H8.out.below hbq)
    replace H9 := Lib.hid (H9.out.below hbq)
    replace K1 := Lib.hid (K1.out.below hbq)
    replace K3 := Lib.hid (K3.out.below hbq)
    replace HB := Lib.hid (HB.out.trans (hbq.mono HB.out.size))
    rw [HOUT.out] at hiq
    obtain ⟨qK4, rfl, hiq⟩ := hiq
    simp only at hiq ⊢
    have K4 := Lib.hid hiq
    clear hiq hbq
    obtain ⟨aK4, cK4, rfl⟩ := K4.out.form
    go_upto_region 15 with fail
    have hbq := below_new U7 (.cells #[.int .i64 zT.k, .int .i64 zT.n, .string zT.s, .slice aK4 zT.args.length cK4] 27 (0, 0))
    have hq := heap_alloc_new U7 (.cells #[.int .i64 zT.k, .int .i64 zT.n, .string zT.s, .slice aK4 zT.args.length cK4] 27 (0, 0))
    have hzq : U7.heap.size < (U7.alloc (.cells #[.int .i64 zT.k, .int .i64 zT.n, .string zT.s, .slice aK4 zT.args.length cK4] 27 (0, 0))).heap.size := by simp
    replace HW3 := Lib.hid (row_on HW3.out hbq)
    replace HA := Lib.hid (HA.out.below hbq)
    replace HC := Lib.hid (HC.out.below hbq)
    replace H8 := Lib.hid (H8.out.below hbq)
    replace H9 := Lib.hid (H9.out.below hbq)
    replace K1 := Lib.hid (K1.out.below hbq)
    replace K3 := Lib.hid (K3.out.below hbq)
    replace K4 := Lib.hid (K4.out.below hbq)
    replace HB := Lib.hid (HB.out.trans (hbq.mono HB.out.size))
    clear hbq hq
    generalize U7.alloc (.cells #[.int .i64 zT.k, .int .i64 zT.n, .string zT.s, .slice aK4 zT.args.length cK4] 27 (0, 0)) = U8 at *
    have p1 : (m == m) = true := by simp
    have p2 : (er == er) = true := by simp
    go_wp2
    go_ret
    exact ⟨rfl, HB.out⟩
end Go.Proofs.Ytohfgfmekciekaa.Tms
