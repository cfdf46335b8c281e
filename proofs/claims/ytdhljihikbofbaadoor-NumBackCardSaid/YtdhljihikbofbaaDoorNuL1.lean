
/-
  Layer 1: the laws NumDivides and NumShifts, walked over the program.
-/
import Derived.Test.YtdhljihikbofbaaDoorNuI
namespace Go.Proofs.YtdhljihikbofbaaDoor.Num
open Go Go.RowKit Go.Proofs.YtdhljihikbofbaaDoor.Reg
set_option linter.unusedVariables false
set_option linter.unusedSimpArgs false

theorem two_quot (a b : Int) : twoT ⟨#[47, 47]⟩ a b = quotT a b := by unfold twoT; rw [if_neg (by decide), if_neg (by decide), if_neg (by decide), if_pos rfl]
theorem two_rem (a b : Int) : twoT ⟨#[114, 101, 109]⟩ a b = remT a b := by unfold twoT; rw [if_neg (by decide), if_neg (by decide), if_neg (by decide), if_neg (by decide), if_pos rfl]
theorem two_div (a b : Int) : twoT ⟨#[100, 105, 118]⟩ a b = divT a b := by unfold twoT; rw [if_neg (by decide), if_neg (by decide), if_neg (by decide), if_neg (by decide), if_neg (by decide), if_pos rfl]
theorem two_mod (a b : Int) : twoT ⟨#[109, 111, 100]⟩ a b = modT a b := by unfold twoT; rw [if_neg (by decide), if_neg (by decide), if_neg (by decide), if_neg (by decide), if_neg (by decide), if_neg (by decide), if_pos rfl]
theorem rem_sign {a b : Int} : ((a.tmod b != 0) = false) ∨ ((a.tmod b != 0) = true ∧ a.tmod b < 0 ∧ a < 0 ∧ decide (a.tmod b < 0) = true ∧ decide (a < 0) = true) ∨ ((a.tmod b != 0) = true ∧ 0 ≤ a.tmod b ∧ 0 ≤ a ∧ decide (a.tmod b < 0) = false ∧ decide (a < 0) = false) := by
  have h := tmod_sign (a := a) (b := b)
  by_cases h0 : a.tmod b = 0
  · exact .inl (by simpa using h0)
  · have h1 : (a.tmod b != 0) = true := by simpa using h0
    by_cases h2 : a < 0
    · exact .inr (.inl ⟨h1, by omega, h2, by simp; omega, by simpa using h2⟩)
    · exact .inr (.inr ⟨h1, by omega, by omega, by simp; omega, by simpa using h2⟩)
theorem fmod_sign {a b : Int} (hb : b ≠ 0) : ((a.fmod b != 0) = false) ∨ ((a.fmod b != 0) = true ∧ a.fmod b < 0 ∧ b < 0 ∧ decide (a.fmod b < 0) = true ∧ decide (b < 0) = true) ∨ ((a.fmod b != 0) = true ∧ 0 ≤ a.fmod b ∧ 0 ≤ b ∧ decide (a.fmod b < 0) = false ∧ decide (b < 0) = false) := by
  by_cases h0 : a.fmod b = 0
  · exact .inl (by simpa using h0)
  · have h1 : (a.fmod b != 0) = true := by simpa using h0
    have hp : 0 ≤ b → 0 ≤ a.fmod b := fun h => Int.fmod_nonneg_of_pos _ (by omega)
    have hn : b < 0 → a.fmod b ≤ 0 := fun h => by
      have := Int.fmod_nonneg_of_pos (-a) (b := -b) (by omega)
      rw [Int.neg_fmod_neg] at this; omega
    by_cases h2 : b < 0
    · exact .inr (.inl ⟨h1, by omega, h2, by simp; omega, by simpa using h2⟩)
    · exact .inr (.inr ⟨h1, by omega, by omega, by simp; omega, by simpa using h2⟩)
theorem back_quot {a b q r : Int} (ha : Fit a) (h : b * q + r = a) : (wrap64 (wrap64 (b * q) + r) == a) = true := by
  have h1 := wrap_eq (b * q)
  have h2 := wrap_eq (wrap64 (b * q) + r)
  unfold Fit at ha
  generalize b * q = p at *
  simp only [beq_iff_eq]
  omega
set_option maxRecDepth 100000 in
theorem law_divides (a b : Int) (ha : Fit a) (hb : Fit b) (w : World) (ht : Tab w) : Calls Tryd.prog 4 #[.int .i64 a, .int .i64 b] w (Says true w) := by
  have HA := Lib.hid ha
  have HB := Lib.hid hb
  have HT := Lib.hid ht
  by_cases h0 : b = 0
  · subst h0
    clear ha hb ht
    go_enter Tryd.func4, Tryd.ntmps4
    go_wp2_with (first
      | (go_at_call 10
         refine (go_alive _ HT.out).mono ?_
         rintro e1 w1 ⟨rfl, hb1⟩
         have BEL := Lib.hid hb1
         clear hb1)
      | (go_at_call 15
         refine (go_Two _ _ _ HA.out HB.out _).mono ?_
         rintro e1 w1 ⟨rfl, hb1⟩
         first | rw [two_quot, quot_no] | rw [two_rem, rem_no] | rw [two_div, div_no] | rw [two_mod, mod_no]
         have BEL2 := Lib.hid (BEL.out.trans (hb1.mono BEL.out.size))
         clear BEL hb1
         have BEL := Lib.hid BEL2.out
         clear BEL2))
    go_ret
    exact ⟨rfl, BEL.out⟩
  by_cases hf : Fit (a.tdiv b)
  · obtain ⟨q, hq⟩ : ∃ q, q = a.tdiv b := ⟨_, rfl⟩
    obtain ⟨r, hr⟩ : ∃ r, r = a.tmod b := ⟨_, rfl⟩
    obtain ⟨d, hd⟩ : ∃ d, d = a.fdiv b := ⟨_, rfl⟩
    obtain ⟨m, hm⟩ : ∃ m, m = a.fmod b := ⟨_, rfl⟩
    have h1 : (wrap64 (wrap64 (b * q) + r) == a) = true := back_quot ha (by rw [hq, hr]; exact Int.mul_tdiv_add_tmod a b)
    have h2 : (wrap64 (wrap64 (b * d) + m) == a) = true := back_quot ha (by rw [hd, hm]; exact Int.mul_fdiv_add_fmod a b)
    have HQ : Hid (quotT a b = (q, 0)) := Lib.hid (by rw [hq]; unfold quotT; rw [if_neg h0]; exact chk_in hf)
    have HR : Hid (remT a b = (r, 0)) := Lib.hid (by rw [hr]; exact rem_by h0)
    have HD : Hid (divT a b = (d, 0)) := Lib.hid (by rw [hd]; exact div_in ha h0 hf)
    have HM : Hid (modT a b = (m, 0)) := Lib.hid (by rw [hm]; exact if_neg h0)
    have r0 := rem_sign (a := a) (b := b)
    have m0 := fmod_sign (a := a) h0
    rw [← hr] at r0
    rw [← hm] at m0
    have b0 : (b == 0) = false := by simpa using h0
    clear ha hb ht hf hq hr hd hm h0
    rcases r0 with r0 | ⟨r0, r1, r2, r3, r4⟩ | ⟨r0, r1, r2, r3, r4⟩ <;> rcases m0 with m0 | ⟨m0, m1, m2, m3, m4⟩ | ⟨m0, m1, m2, m3, m4⟩
    all_goals
      go_enter Tryd.func4, Tryd.ntmps4
      go_wp2_with (first
        | (go_at_call 10
           refine (go_alive _ HT.out).mono ?_
           rintro e1 w1 ⟨rfl, hb1⟩
           have BEL := Lib.hid hb1
           clear hb1)
        | (go_at_call 15
           refine (go_Two _ _ _ HA.out HB.out _).mono ?_
           rintro e1 w1 ⟨rfl, hb1⟩
           first | rw [two_quot, HQ.out] | rw [two_rem, HR.out] | rw [two_div, HD.out] | rw [two_mod, HM.out]
           have BEL2 := Lib.hid (BEL.out.trans (hb1.mono BEL.out.size))
           clear BEL hb1
           have BEL := Lib.hid BEL2.out
           clear BEL2))
      go_ret
      exact ⟨rfl, BEL.out⟩
  · obtain rfl := tdiv_m h0 hf ha
    have hmin : a = -9223372036854775808 := by rw [tdiv_m1] at hf; unfold Fit at *; omega
    have HQ : Hid (quotT a (-1) = (0, 11)) := Lib.hid (by unfold quotT; rw [if_neg h0]; exact chk_out hf)
    have HD := Lib.hid (div_out ha h0 hf)
    subst hmin
    clear ha hb ht hf h0
    go_enter Tryd.func4, Tryd.ntmps4
    go_wp2_with (first
      | (go_at_call 10
         refine (go_alive _ HT.out).mono ?_
         rintro e1 w1 ⟨rfl, hb1⟩
         have BEL := Lib.hid hb1
         clear hb1)
      | (go_at_call 15
         refine (go_Two _ _ _ HA.out HB.out _).mono ?_
         rintro e1 w1 ⟨rfl, hb1⟩
         first | rw [two_quot, HQ.out] | rw [two_rem, rem_one] | rw [two_div, HD.out] | rw [two_mod, mod_one]
         have BEL2 := Lib.hid (BEL.out.trans (hb1.mono BEL.out.size))
         clear BEL hb1
         have BEL := Lib.hid BEL2.out
         clear BEL2))
    go_ret
    exact ⟨rfl, BEL.out⟩
end Go.Proofs.YtdhljihikbofbaaDoor.Num
