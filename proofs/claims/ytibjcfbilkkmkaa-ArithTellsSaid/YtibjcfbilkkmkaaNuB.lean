
/-
  Layer 1: the pair's and the whole number's methods, walked over the program (printed by gen_nub.py).
-/
import Derived.Test.YtibjcfbilkkmkaaNuA
namespace Go.Proofs.Ytibjcfbilkkmkaa.Num
open Go Go.RowKit Go.Proofs.Ytibjcfbilkkmkaa.Reg
set_option linter.unusedVariables false
set_option linter.unusedSimpArgs false

set_option maxRecDepth 100000 in
theorem pair_add (a b : Int) (ha : Fit a) (hb : Fit b) (w : World) : Calls Try.prog 91 #[.agg #[.int .i64 a, .int .i64 b]] w (NPost (chk (a + b)) w) := by
  obtain ⟨ha0, ha1⟩ := ha
  obtain ⟨hb0, hb1⟩ := hb
  go_enter Try.func91, Try.ntmps91
  go_wp2
  all_goals
    go_ret2
    exact npost (by first | exact chk_in ⟨by omega, by omega⟩ | exact chk_out (fun h => by unfold Fit at h; omega)) (box_b _ _)
set_option maxRecDepth 100000 in
theorem pair_sub (a b : Int) (ha : Fit a) (hb : Fit b) (w : World) : Calls Try.prog 92 #[.agg #[.int .i64 a, .int .i64 b]] w (NPost (chk (a - b)) w) := by
  obtain ⟨ha0, ha1⟩ := ha
  obtain ⟨hb0, hb1⟩ := hb
  go_enter Try.func92, Try.ntmps92
  go_wp2
  all_goals
    go_ret2
    exact npost (by first | exact chk_in ⟨by omega, by omega⟩ | exact chk_out (fun h => by unfold Fit at h; omega)) (box_b _ _)
set_option maxRecDepth 100000 in
theorem whole_negate (a : Int) (ha : Fit a) (w : World) : Calls Try.prog 86 #[.int .i64 a] w (NPost (chk (-a)) w) := by
  by_cases h : a = -9223372036854775808
  · subst h
    go_enter Try.func86, Try.ntmps86
    go_wp2
    go_ret2
    exact npost (chk_out (by decide)) (Below.refl _ _)
  · have h1 : (a == -9223372036854775808) = false := by simpa using h
    obtain ⟨ha0, ha1⟩ := ha
    go_enter Try.func86, Try.ntmps86
    go_wp2
    go_ret2
    exact npost (chk_in ⟨by omega, by omega⟩) (Below.refl _ _)
set_option maxRecDepth 100000 in
theorem whole_same (a : Int) (w : World) : Calls Try.prog 87 #[.int .i64 a] w (NPost (a, 0) w) := by
  go_enter Try.func87, Try.ntmps87
  go_wp2
  go_ret2
  exact npost rfl (Below.refl _ _)
set_option maxRecDepth 100000 in
theorem whole_abs (a : Int) (ha : Fit a) (w : World) : Calls Try.prog 88 #[.int .i64 a] w (NPost (chk (a.natAbs : Int)) w) := by
  have HA := Lib.hid ha
  obtain ⟨ha0, ha1⟩ := ha
  go_enter Try.func88, Try.ntmps88
  by_cases h : a < 0
  · go_wp2_with (go_at_call 86; refine (whole_negate _ HA.out _).mono ?_; rintro e1 w1 ⟨rfl, hb1⟩; have HB1 := Lib.hid hb1; clear hb1)
    go_ret2
    exact npost (by rw [show (a.natAbs : Int) = -a by omega]) HB1.out
  · go_wp2
    go_ret2
    exact npost (by rw [chk_in ⟨by omega, by omega⟩]; congr 1; omega) (Below.refl _ _)
set_option maxRecDepth 100000 in
theorem whole_sign (a : Int) (w : World) : Calls Try.prog 89 #[.int .i64 a] w (NPost (a.sign, 0) w) := by
  go_enter Try.func89, Try.ntmps89
  rcases Int.lt_trichotomy a 0 with h | h | h
  · have e : a.sign = -1 := Int.sign_eq_neg_one_of_neg h
    have E := Lib.hid e
    clear e
    go_wp2
    go_ret2
    exact npost (by rw [E.out]) (Below.refl _ _)
  · subst h
    go_wp2
    go_ret2
    exact npost rfl (Below.refl _ _)
  · have e : a.sign = 1 := Int.sign_eq_one_of_pos h
    have E := Lib.hid e
    clear e
    go_wp2
    go_ret2
    exact npost (by rw [E.out]) (Below.refl _ _)
set_option maxRecDepth 100000 in
theorem whole_turn (a : Int) (w : World) : Calls Try.prog 90 #[.int .i64 a] w (NPost (bits .xor .i64 (-1) a, 0) w) := by
  go_enter Try.func90, Try.ntmps90
  go_wp2
  go_ret2
  exact npost rfl (Below.refl _ _)
set_option maxRecDepth 100000 in
theorem pair_least (a b : Int) (w : World) : Calls Try.prog 98 #[.agg #[.int .i64 a, .int .i64 b]] w (NPost (min a b, 0) w) := by
  go_enter Try.func98, Try.ntmps98
  go_wp2
  all_goals
    go_ret2
    exact npost (by first | rfl | (congr 1; omega)) (box_b _ _)
set_option maxRecDepth 100000 in
theorem pair_greatest (a b : Int) (w : World) : Calls Try.prog 99 #[.agg #[.int .i64 a, .int .i64 b]] w (NPost (max a b, 0) w) := by
  go_enter Try.func99, Try.ntmps99
  go_wp2
  all_goals
    go_ret2
    exact npost (by first | rfl | (congr 1; omega)) (box_b _ _)
set_option maxRecDepth 100000 in
theorem pair_and (a b : Int) (w : World) : Calls Try.prog 100 #[.agg #[.int .i64 a, .int .i64 b]] w (NPost (bits .and .i64 a b, 0) w) := by
  go_enter Try.func100, Try.ntmps100
  go_wp2
  all_goals
    go_ret2
    exact npost (by first | rfl | (congr 1; omega)) (box_b _ _)
set_option maxRecDepth 100000 in
theorem pair_or (a b : Int) (w : World) : Calls Try.prog 101 #[.agg #[.int .i64 a, .int .i64 b]] w (NPost (bits .or .i64 a b, 0) w) := by
  go_enter Try.func101, Try.ntmps101
  go_wp2
  all_goals
    go_ret2
    exact npost (by first | rfl | (congr 1; omega)) (box_b _ _)
set_option maxRecDepth 100000 in
theorem pair_xor (a b : Int) (w : World) : Calls Try.prog 102 #[.agg #[.int .i64 a, .int .i64 b]] w (NPost (bits .xor .i64 a b, 0) w) := by
  go_enter Try.func102, Try.ntmps102
  go_wp2
  all_goals
    go_ret2
    exact npost (by first | rfl | (congr 1; omega)) (box_b _ _)
set_option maxRecDepth 100000 in
theorem pair_mul (a b : Int) (ha : Fit a) (hb : Fit b) (w : World) : Calls Try.prog 93 #[.agg #[.int .i64 a, .int .i64 b]] w (NPost (chk (a * b)) w) := by
  have HA := Lib.hid ha
  have HB := Lib.hid hb
  by_cases h1 : a = 0
  · subst h1
    go_enter Try.func93, Try.ntmps93
    go_wp2
    go_ret2
    exact npost (by rw [Int.zero_mul]; exact chk_in (by decide)) (box_b _ _)
  by_cases h2 : b = 0
  · subst h2
    have a0 : (a == 0) = false := by simpa using h1
    go_enter Try.func93, Try.ntmps93
    go_wp2
    go_ret2
    exact npost (by rw [Int.mul_zero]; exact chk_in (by decide)) (box_b _ _)
  by_cases h3 : a = -1
  · subst h3
    have b0 : (b == 0) = false := by simpa using h2
    go_enter Try.func93, Try.ntmps93
    go_wp2_with (go_at_call 86; refine (whole_negate _ HB.out _).mono ?_; rintro e1 w1 ⟨rfl, hb1⟩; have HB1 := Lib.hid hb1; clear hb1)
    go_ret2
    exact npost (by rw [Int.neg_one_mul]) ((box_b _ _).trans (HB1.out.mono (by simp)))
  by_cases h4 : b = -1
  · subst h4
    have a0 : (a == 0) = false := by simpa using h1
    have a1 : (a == -1) = false := by simpa using h3
    go_enter Try.func93, Try.ntmps93
    go_wp2_with (go_at_call 86; refine (whole_negate _ HA.out _).mono ?_; rintro e1 w1 ⟨rfl, hb1⟩; have HB1 := Lib.hid hb1; clear hb1)
    go_ret2
    exact npost (by rw [Int.mul_neg_one]) ((box_b _ _).trans (HB1.out.mono (by simp)))
  have a0 : (a == 0) = false := by simpa using h1
  have b0 : (b == 0) = false := by simpa using h2
  have a1 : (a == -1) = false := by simpa using h3
  have b1 : (b == -1) = false := by simpa using h4
  have hw : wrap64 ((wrap64 (a * b)).tdiv b) = (wrap64 (a * b)).tdiv b := wrap_in (tdiv_fit (wrap_fit _) h4)
  by_cases hf : Fit (a * b)
  · have hm : (((wrap64 (a * b)).tdiv b) != a) = false := by simpa using (mul_back ha hb h2 h4).2 hf
    have HW := Lib.hid (wrap_in hf)
    have HC := Lib.hid (chk_in hf)
    clear hf h3 h4 h1 ha hb
    go_enter Try.func93, Try.ntmps93
    go_wp2
    go_quiet (fail)
    go_wp2
    go_ret2
    exact npost (by rw [HC.out, HW.out]) (draw_b (box_b _ _) _)
  · have hm : (((wrap64 (a * b)).tdiv b) != a) = true := by
      have h5 := mt (mul_back ha hb h2 h4).1 hf
      simpa using h5
    have HC := Lib.hid (chk_out hf)
    clear hf h3 h4 h1 ha hb
    go_enter Try.func93, Try.ntmps93
    go_wp2
    go_quiet (fail)
    go_wp2
    go_ret2
    exact npost HC.out (draw_b (box_b _ _) _)
set_option maxRecDepth 100000 in
theorem pair_quot (a b : Int) (ha : Fit a) (hb : Fit b) (w : World) : Calls Try.prog 94 #[.agg #[.int .i64 a, .int .i64 b]] w (NPost (quotT a b) w) := by
  have HA := Lib.hid ha
  by_cases h0 : b = 0
  · subst h0
    go_enter Try.func94, Try.ntmps94
    go_wp2
    go_ret2
    exact npost (quot_no a) (box_b _ _)
  by_cases h1 : b = -1
  · subst h1
    go_enter Try.func94, Try.ntmps94
    go_wp2_with (go_at_call 86; refine (whole_negate _ HA.out _).mono ?_; rintro e1 w1 ⟨rfl, hb1⟩; have HB1 := Lib.hid hb1; clear hb1)
    go_ret2
    exact npost (quot_one a) ((box_b _ _).trans (HB1.out.mono (by simp)))
  have b0 : (b == 0) = false := by simpa using h0
  have b1 : (b == -1) = false := by simpa using h1
  have HR := Lib.hid (quot_by ha h0 h1)
  clear h1 ha
  go_enter Try.func94, Try.ntmps94
  go_wp2
  go_ret2
  exact npost HR.out (box_b _ _)
set_option maxRecDepth 100000 in
theorem pair_rem (a b : Int) (w : World) : Calls Try.prog 95 #[.agg #[.int .i64 a, .int .i64 b]] w (NPost (remT a b) w) := by
  by_cases h0 : b = 0
  · subst h0
    go_enter Try.func95, Try.ntmps95
    go_wp2
    go_ret2
    exact npost (rem_no a) (box_b _ _)
  by_cases h1 : b = -1
  · subst h1
    go_enter Try.func95, Try.ntmps95
    go_wp2
    go_ret2
    exact npost (rem_one a) (box_b _ _)
  have b0 : (b == 0) = false := by simpa using h0
  have b1 : (b == -1) = false := by simpa using h1
  have HR := Lib.hid (rem_by (a := a) h0)
  clear h1
  go_enter Try.func95, Try.ntmps95
  go_wp2
  go_ret2
  exact npost HR.out (box_b _ _)
set_option maxRecDepth 100000 in
theorem pair_div (a b : Int) (ha : Fit a) (hb : Fit b) (w : World) : Calls Try.prog 96 #[.agg #[.int .i64 a, .int .i64 b]] w (NPost (divT a b) w) := by
  have HA := Lib.hid ha
  by_cases h0 : b = 0
  · subst h0
    go_enter Try.func96, Try.ntmps96
    go_wp2
    go_ret2
    exact npost (div_no a) (box_b _ _)
  by_cases h1 : b = -1
  · subst h1
    go_enter Try.func96, Try.ntmps96
    go_wp2_with (go_at_call 86; refine (whole_negate _ HA.out _).mono ?_; rintro e1 w1 ⟨rfl, hb1⟩; have HB1 := Lib.hid hb1; clear hb1)
    go_ret2
    exact npost (div_one a) ((box_b _ _).trans (HB1.out.mono (by simp)))
  have b0 : (b == 0) = false := by simpa using h0
  have b1 : (b == -1) = false := by simpa using h1
  have HW := Lib.hid (wrap_in (tdiv_fit ha h1))
  have hf := tmod_fit (a := a) hb h0
  by_cases hz : a.tmod b = 0
  · have z0 : (a.tmod b != 0) = false := by simpa using hz
    have HZ := Lib.hid hz
    have HR := Lib.hid (div_near (a := a) ha h0 h1 (fun h => h.1 hz))
    clear h1 ha hb hf
    go_enter Try.func96, Try.ntmps96
    go_wp2
    go_quiet (fail)
    go_wp2
    all_goals first
      | (rename_i hh; exact absurd hh (by simp only []; decide))
      | (go_ret2; exact npost (by first | exact HR.out | (rw [HW.out]; exact HR.out) | (rw [HR.out, HZ.out])) (draw_b (box_b _ _) _))
  have z0 : (a.tmod b != 0) = true := by simpa using hz
  by_cases hr : a.tmod b < 0
  · by_cases hs : b < 0
    · have HR := Lib.hid (div_near (a := a) ha h0 h1 (fun h => h.2 (by omega)))
      clear h1 ha hb hf
      go_enter Try.func96, Try.ntmps96
      go_wp2
      go_quiet (fail)
      go_wp2
      all_goals first
        | (rename_i hh; exact absurd hh (by simp only [decide_eq_true (show (a.tmod b : Int) < 0 by omega), decide_eq_true (show (b : Int) < 0 by omega)]; decide))
        | (go_ret2; exact npost (by first | exact HR.out | (rw [HW.out]; exact HR.out) | (rw [HR.out, HZ.out])) (draw_b (box_b _ _) _))
    · have ap : Apart (a.tmod b) b := ⟨hz, by omega⟩
      have HR := Lib.hid (div_far (a := a) ha h0 h1 ap)
      have hs1 := tdiv_half ha h0 h1 ap
      rw [← HW.out] at hs1
      obtain ⟨hs2, hs3⟩ := hs1
      clear h1 ha hb hf
      go_enter Try.func96, Try.ntmps96
      go_wp2
      go_quiet (fail)
      go_wp2
      all_goals first
        | (rename_i hh; exact absurd hh (by simp only [decide_eq_true (show (a.tmod b : Int) < 0 by omega), decide_eq_false (show ¬ (b : Int) < 0 by omega)]; decide))
        | (go_ret2; exact npost (by first | exact HR.out | (rw [HW.out]; exact HR.out) | (rw [HR.out, HZ.out])) (draw_b (box_b _ _) _))
  · by_cases hs : b < 0
    · have ap : Apart (a.tmod b) b := ⟨hz, by omega⟩
      have HR := Lib.hid (div_far (a := a) ha h0 h1 ap)
      have hs1 := tdiv_half ha h0 h1 ap
      rw [← HW.out] at hs1
      obtain ⟨hs2, hs3⟩ := hs1
      clear h1 ha hb hf
      go_enter Try.func96, Try.ntmps96
      go_wp2
      go_quiet (fail)
      go_wp2
      all_goals first
        | (rename_i hh; exact absurd hh (by simp only [decide_eq_false (show ¬ (a.tmod b : Int) < 0 by omega), decide_eq_true (show (b : Int) < 0 by omega)]; decide))
        | (go_ret2; exact npost (by first | exact HR.out | (rw [HW.out]; exact HR.out) | (rw [HR.out, HZ.out])) (draw_b (box_b _ _) _))
    · have HR := Lib.hid (div_near (a := a) ha h0 h1 (fun h => h.2 (by omega)))
      clear h1 ha hb hf
      go_enter Try.func96, Try.ntmps96
      go_wp2
      go_quiet (fail)
      go_wp2
      all_goals first
        | (rename_i hh; exact absurd hh (by simp only [decide_eq_false (show ¬ (a.tmod b : Int) < 0 by omega), decide_eq_false (show ¬ (b : Int) < 0 by omega)]; decide))
        | (go_ret2; exact npost (by first | exact HR.out | (rw [HW.out]; exact HR.out) | (rw [HR.out, HZ.out])) (draw_b (box_b _ _) _))
set_option maxRecDepth 100000 in
theorem pair_mod (a b : Int) (ha : Fit a) (hb : Fit b) (w : World) : Calls Try.prog 97 #[.agg #[.int .i64 a, .int .i64 b]] w (NPost (modT a b) w) := by
  have HA := Lib.hid ha
  by_cases h0 : b = 0
  · subst h0
    go_enter Try.func97, Try.ntmps97
    go_wp2
    go_ret2
    exact npost (mod_no a) (box_b _ _)
  by_cases h1 : b = -1
  · subst h1
    go_enter Try.func97, Try.ntmps97
    go_wp2
    go_ret2
    exact npost (mod_one a) (box_b _ _)
  have b0 : (b == 0) = false := by simpa using h0
  have b1 : (b == -1) = false := by simpa using h1
  have HW := Lib.hid (wrap_in (tdiv_fit ha h1))
  have hf := tmod_fit (a := a) hb h0
  by_cases hz : a.tmod b = 0
  · have z0 : (a.tmod b != 0) = false := by simpa using hz
    have HZ := Lib.hid hz
    have HR := Lib.hid (mod_near (a := a) h0 (fun h => h.1 hz))
    clear h1 ha hb hf
    go_enter Try.func97, Try.ntmps97
    go_wp2
    all_goals first
      | (rename_i hh; exact absurd hh (by simp only []; decide))
      | (go_ret2; exact npost (by first | exact HR.out | (rw [HW.out]; exact HR.out) | (rw [HR.out, HZ.out])) (box_b _ _))
  have z0 : (a.tmod b != 0) = true := by simpa using hz
  by_cases hr : a.tmod b < 0
  · by_cases hs : b < 0
    · have HR := Lib.hid (mod_near (a := a) h0 (fun h => h.2 (by omega)))
      clear h1 ha hb hf
      go_enter Try.func97, Try.ntmps97
      go_wp2
      all_goals first
        | (rename_i hh; exact absurd hh (by simp only [decide_eq_true (show (a.tmod b : Int) < 0 by omega), decide_eq_true (show (b : Int) < 0 by omega)]; decide))
        | (go_ret2; exact npost (by first | exact HR.out | (rw [HW.out]; exact HR.out) | (rw [HR.out, HZ.out])) (box_b _ _))
    · have ap : Apart (a.tmod b) b := ⟨hz, by omega⟩
      have HR := Lib.hid (mod_far (a := a) h0 ap)
      obtain ⟨hs2, hs3⟩ := (fit_add_rem hb h0 ap)
      clear h1 ha hb hf
      go_enter Try.func97, Try.ntmps97
      go_wp2
      all_goals first
        | (rename_i hh; exact absurd hh (by simp only [decide_eq_true (show (a.tmod b : Int) < 0 by omega), decide_eq_false (show ¬ (b : Int) < 0 by omega)]; decide))
        | (go_ret2; exact npost (by first | exact HR.out | (rw [HW.out]; exact HR.out) | (rw [HR.out, HZ.out])) (box_b _ _))
  · by_cases hs : b < 0
    · have ap : Apart (a.tmod b) b := ⟨hz, by omega⟩
      have HR := Lib.hid (mod_far (a := a) h0 ap)
      obtain ⟨hs2, hs3⟩ := (fit_add_rem hb h0 ap)
      clear h1 ha hb hf
      go_enter Try.func97, Try.ntmps97
      go_wp2
      all_goals first
        | (rename_i hh; exact absurd hh (by simp only [decide_eq_false (show ¬ (a.tmod b : Int) < 0 by omega), decide_eq_true (show (b : Int) < 0 by omega)]; decide))
        | (go_ret2; exact npost (by first | exact HR.out | (rw [HW.out]; exact HR.out) | (rw [HR.out, HZ.out])) (box_b _ _))
    · have HR := Lib.hid (mod_near (a := a) h0 (fun h => h.2 (by omega)))
      clear h1 ha hb hf
      go_enter Try.func97, Try.ntmps97
      go_wp2
      all_goals first
        | (rename_i hh; exact absurd hh (by simp only [decide_eq_false (show ¬ (a.tmod b : Int) < 0 by omega), decide_eq_false (show ¬ (b : Int) < 0 by omega)]; decide))
        | (go_ret2; exact npost (by first | exact HR.out | (rw [HW.out]; exact HR.out) | (rw [HR.out, HZ.out])) (box_b _ _))
end Go.Proofs.Ytibjcfbilkkmkaa.Num
