
/-
  Layer 1's reference: Two, walked over the program (printed by gen_nug.py).
-/
import Derived.Test.YtibjcfbilkkmkaaNuF
import Derived.Test.YtibjcfbilkkmkaaNuD
namespace Go.Proofs.Ytibjcfbilkkmkaa.Num
open Go Go.RowKit Go.Proofs.Ytibjcfbilkkmkaa.Reg
set_option linter.unusedVariables false
set_option linter.unusedSimpArgs false

theorem bytes_no {a : ByteArray} {l : List UInt8} (h : ¬ a = ⟨l.toArray⟩) : (a.toList == l) = false := by
  cases e : a.toList == l with
  | false => rfl
  | true =>
    refine absurd ?_ h
    have e2 := eq_of_beq e
    obtain ⟨d⟩ := a
    have h3 : (ByteArray.mk d).toList = d.toList := by have := ByteArray.toList_mk d.toList; simpa using this
    rw [h3] at e2
    rw [← e2]
set_option maxRecDepth 100000 in
theorem ref_Two_add (a b : Int) (ha : Fit a) (hb : Fit b) (w : World) : Calls Try.prog 60 #[.string ⟨#[43]⟩, .int .i64 a, .int .i64 b] w (NPost (chk (a + b)) w) := by
  have HA := Lib.hid ha
  have HB := Lib.hid hb
  by_cases hf : Fit (a + b)
  · have HF := Lib.hid hf
    clear hf ha hb
    go_enter Try.func60, Try.ntmps60
    go_wp2_with (first
      | (go_at_call 74; refine (ref_add_in _ _ HA.out HB.out HF.out _).mono ?_; rintro e1 w1 ⟨rfl, rfl⟩)
      | (go_at_call 73; refine (ref_told_in _ _).mono ?_; rintro e2 w2 ⟨rfl, hb2⟩; have HB2 := Lib.hid hb2; clear hb2))
    go_ret2
    exact npost (chk_in HF.out) HB2.out
  · have HF := Lib.hid hf
    clear hf ha hb
    go_enter Try.func60, Try.ntmps60
    go_wp2_with (first
      | (go_at_call 74; refine (ref_add_out _ _ HA.out HB.out HF.out _).mono ?_; rintro e1 w1 ⟨v, rfl, rfl⟩)
      | (go_at_call 73; refine (ref_told_out _ _).mono ?_; rintro e2 w2 ⟨rfl, hb2⟩; have HB2 := Lib.hid hb2; clear hb2))
    go_ret2
    exact npost (chk_out HF.out) HB2.out
set_option maxRecDepth 100000 in
theorem ref_Two_mul (a b : Int) (ha : Fit a) (hb : Fit b) (w : World) : Calls Try.prog 60 #[.string ⟨#[42]⟩, .int .i64 a, .int .i64 b] w (NPost (chk (a * b)) w) := by
  have HA := Lib.hid ha
  have HB := Lib.hid hb
  by_cases hf : Fit (a * b)
  · have HF := Lib.hid hf
    clear hf ha hb
    go_enter Try.func60, Try.ntmps60
    go_wp2_with (first
      | (go_at_call 75; refine (ref_mul_in _ _ HA.out HB.out HF.out _).mono ?_; rintro e1 w1 ⟨rfl, rfl⟩)
      | (go_at_call 73; refine (ref_told_in _ _).mono ?_; rintro e2 w2 ⟨rfl, hb2⟩; have HB2 := Lib.hid hb2; clear hb2))
    go_ret2
    exact npost (chk_in HF.out) HB2.out
  · have HF := Lib.hid hf
    clear hf ha hb
    go_enter Try.func60, Try.ntmps60
    go_wp2_with (first
      | (go_at_call 75; refine (ref_mul_out _ _ HA.out HB.out HF.out _).mono ?_; rintro e1 w1 ⟨v, rfl, rfl⟩)
      | (go_at_call 73; refine (ref_told_out _ _).mono ?_; rintro e2 w2 ⟨rfl, hb2⟩; have HB2 := Lib.hid hb2; clear hb2))
    go_ret2
    exact npost (chk_out HF.out) HB2.out
set_option maxRecDepth 100000 in
theorem ref_Two_sub (a b : Int) (ha : Fit a) (hb : Fit b) (w : World) : Calls Try.prog 60 #[.string ⟨#[45]⟩, .int .i64 a, .int .i64 b] w (NPost (chk (a - b)) w) := by
  have HA := Lib.hid ha
  have HB := Lib.hid hb
  by_cases h0 : b = -9223372036854775808
  · subst h0
    clear ha hb
    by_cases h1 : a < 0
    · have hf : Fit (a - -9223372036854775808) := by have := HA.out; unfold Fit at *; omega
      have HF := Lib.hid hf
      have HW := Lib.hid (wrap_in hf)
      have hw2 : wrap64 (a - -9223372036854775808) = a - -9223372036854775808 := wrap_in hf
      clear hf hw2
      have d1 : decide (a < 0) = true := by simpa using h1
      go_enter Try.func60, Try.ntmps60
      go_wp2_with (go_at_call 73; refine (ref_told_in _ _).mono ?_; rintro e2 w2 ⟨rfl, hb2⟩; have HB2 := Lib.hid hb2; clear hb2)
      go_ret2
      exact npost (by rw [chk_in HF.out]; congr 1; first | exact HW.out.symm | (rw [← HW.out]; congr 1; omega) | (rw [wrap_eq]; have := HA.out; unfold Fit at this; omega) | omega) HB2.out
    · have HF := Lib.hid (show ¬ Fit (a - -9223372036854775808) by unfold Fit; omega)
      have d1 : decide (a < 0) = false := by simpa using h1
      go_enter Try.func60, Try.ntmps60
      go_wp2_with (go_at_call 73; refine (ref_told_out _ _).mono ?_; rintro e2 w2 ⟨rfl, hb2⟩; have HB2 := Lib.hid hb2; clear hb2)
      go_ret2
      exact npost (chk_out HF.out) HB2.out
  have b0 : (b == -9223372036854775808) = false := by simpa using h0
  have hn : Fit (-b) := (neg_fit hb).2 h0
  have HN := Lib.hid hn
  obtain ⟨hn0, hn1⟩ := hn
  clear ha hb h0
  by_cases hf : Fit (a + -b)
  · have HF := Lib.hid hf
    clear hf
    go_enter Try.func60, Try.ntmps60
    go_wp2_with (first
      | (go_at_call 74; refine (ref_add_in _ _ HA.out HN.out HF.out _).mono ?_; rintro e1 w1 ⟨rfl, rfl⟩)
      | (go_at_call 73; refine (ref_told_in _ _).mono ?_; rintro e2 w2 ⟨rfl, hb2⟩; have HB2 := Lib.hid hb2; clear hb2))
    go_ret2
    exact npost (by rw [Int.sub_eq_add_neg]; exact chk_in HF.out) HB2.out
  · have HF := Lib.hid hf
    clear hf
    go_enter Try.func60, Try.ntmps60
    go_wp2_with (first
      | (go_at_call 74; refine (ref_add_out _ _ HA.out HN.out HF.out _).mono ?_; rintro e1 w1 ⟨v, rfl, rfl⟩)
      | (go_at_call 73; refine (ref_told_out _ _).mono ?_; rintro e2 w2 ⟨rfl, hb2⟩; have HB2 := Lib.hid hb2; clear hb2))
    go_ret2
    exact npost (by rw [Int.sub_eq_add_neg]; exact chk_out HF.out) HB2.out
set_option maxRecDepth 100000 in
theorem ref_Two_quot (a b : Int) (ha : Fit a) (hb : Fit b) (w : World) : Calls Try.prog 60 #[.string ⟨#[47, 47]⟩, .int .i64 a, .int .i64 b] w (NPost (quotT a b) w) := by
  have HA := Lib.hid ha
  have HB := Lib.hid hb
  by_cases h0 : b = 0
  · subst h0
    clear ha hb
    go_enter Try.func60, Try.ntmps60
    go_wp2
    go_ret2
    exact npost' (quot_no a)
  have b0 : (b == 0) = false := by simpa using h0
  have H0 := Lib.hid h0
  by_cases hf : Fit (a.tdiv b)
  · have HF := Lib.hid hf
    have HR := Lib.hid (show quotT a b = (a.tdiv b, 0) by unfold quotT; rw [if_neg h0]; exact chk_in hf)
    clear hf ha hb h0
    go_enter Try.func60, Try.ntmps60
    go_wp2_with (first
      | (go_at_call 76; refine (ref_quo_in _ _ HA.out H0.out HF.out _).mono ?_; rintro e1 w1 ⟨rfl, rfl⟩)
      | (go_at_call 73; refine (ref_told_in _ _).mono ?_; rintro e2 w2 ⟨rfl, hb2⟩; have HB2 := Lib.hid hb2; clear hb2))
    go_ret2
    exact npost HR.out HB2.out
  · have HF := Lib.hid hf
    have HR := Lib.hid (show quotT a b = (0, 11) by unfold quotT; rw [if_neg h0]; exact chk_out hf)
    clear hf ha hb h0
    go_enter Try.func60, Try.ntmps60
    go_wp2_with (first
      | (go_at_call 76; refine (ref_quo_out _ _ HA.out H0.out HF.out _).mono ?_; rintro e1 w1 ⟨v, rfl, rfl⟩)
      | (go_at_call 73; refine (ref_told_out _ _).mono ?_; rintro e2 w2 ⟨rfl, hb2⟩; have HB2 := Lib.hid hb2; clear hb2))
    go_ret2
    exact npost HR.out HB2.out
set_option maxRecDepth 100000 in
theorem ref_Two_div (a b : Int) (ha : Fit a) (hb : Fit b) (w : World) : Calls Try.prog 60 #[.string ⟨#[100, 105, 118]⟩, .int .i64 a, .int .i64 b] w (NPost (divT a b) w) := by
  have HA := Lib.hid ha
  have HB := Lib.hid hb
  by_cases h0 : b = 0
  · subst h0
    clear ha hb
    go_enter Try.func60, Try.ntmps60
    go_wp2
    go_ret2
    exact npost' (div_no a)
  have b0 : (b == 0) = false := by simpa using h0
  have H0 := Lib.hid h0
  by_cases hf : Fit (a.tdiv b)
  · have HF := Lib.hid hf
    have HR := Lib.hid (div_in ha h0 hf)
    clear hf ha hb h0
    go_enter Try.func60, Try.ntmps60
    go_wp2_with (first
      | (go_at_call 77; refine (ref_down_in _ _ HA.out H0.out HF.out _).mono ?_; rintro e1 w1 ⟨rfl, rfl⟩)
      | (go_at_call 73; refine (ref_told_in _ _).mono ?_; rintro e2 w2 ⟨rfl, hb2⟩; have HB2 := Lib.hid hb2; clear hb2))
    go_ret2
    exact npost HR.out HB2.out
  · have HF := Lib.hid hf
    have HR := Lib.hid (div_out ha h0 hf)
    clear hf ha hb h0
    go_enter Try.func60, Try.ntmps60
    go_wp2_with (first
      | (go_at_call 77; refine (ref_down_out _ _ HA.out H0.out HF.out _).mono ?_; rintro e1 w1 ⟨v, rfl, rfl⟩)
      | (go_at_call 73; refine (ref_told_out _ _).mono ?_; rintro e2 w2 ⟨rfl, hb2⟩; have HB2 := Lib.hid hb2; clear hb2))
    go_ret2
    exact npost HR.out HB2.out
set_option maxRecDepth 100000 in
theorem ref_Two_rem (a b : Int) (ha : Fit a) (hb : Fit b) (w : World) : Calls Try.prog 60 #[.string ⟨#[114, 101, 109]⟩, .int .i64 a, .int .i64 b] w (NPost (remT a b) w) := by
  have HA := Lib.hid ha
  have HB := Lib.hid hb
  by_cases h0 : b = 0
  · subst h0
    clear ha hb
    go_enter Try.func60, Try.ntmps60
    go_wp2
    go_ret2
    exact npost' (rem_no a)
  have b0 : (b == 0) = false := by simpa using h0
  by_cases h1 : b = -1
  · subst h1
    clear ha hb
    go_enter Try.func60, Try.ntmps60
    go_wp2
    go_ret2
    exact npost' (rem_one a)
  have b1 : (b == -1) = false := by simpa using h1
  have HR := Lib.hid (rem_by (a := a) h0)
  clear ha hb h1
  go_enter Try.func60, Try.ntmps60
  go_wp2
  go_ret2
  exact npost' HR.out
set_option maxRecDepth 100000 in
theorem ref_Two_mod (a b : Int) (ha : Fit a) (hb : Fit b) (w : World) : Calls Try.prog 60 #[.string ⟨#[109, 111, 100]⟩, .int .i64 a, .int .i64 b] w (NPost (modT a b) w) := by
  have HA := Lib.hid ha
  have HB := Lib.hid hb
  by_cases h0 : b = 0
  · subst h0
    clear ha hb
    go_enter Try.func60, Try.ntmps60
    go_wp2
    go_ret2
    exact npost' (mod_no a)
  have b0 : (b == 0) = false := by simpa using h0
  by_cases h1 : b = -1
  · subst h1
    clear ha hb
    go_enter Try.func60, Try.ntmps60
    go_wp2
    go_ret2
    exact npost' (mod_one a)
  have b1 : (b == -1) = false := by simpa using h1
  by_cases hz : a.tmod b = 0
  · have z0 : (a.tmod b != 0) = false := by simpa using hz
    have HZ := Lib.hid hz
    have HR := Lib.hid (mod_near (a := a) h0 (fun h => h.1 hz))
    clear ha hb h1 hz
    go_enter Try.func60, Try.ntmps60
    go_wp2
    go_ret2
    exact npost' (by first | exact HR.out | rw [HR.out, HZ.out])
  have z0 : (a.tmod b != 0) = true := by simpa using hz
  by_cases hr : a.tmod b < 0
  · by_cases hs : b < 0
    · have HR := Lib.hid (mod_near (a := a) h0 (fun h => h.2 (by omega)))
      clear ha hb h1
      go_enter Try.func60, Try.ntmps60
      go_wp2
      all_goals first
        | (rename_i hh; exact absurd hh (by simp only [decide_eq_true (show (a.tmod b : Int) < 0 by omega), decide_eq_true (show (b : Int) < 0 by omega)]; decide))
        | (go_ret2; exact npost' HR.out)
    · have HR := Lib.hid (mod_far (a := a) h0 ⟨hz, by omega⟩)
      obtain ⟨hs2, hs3⟩ := fit_add_rem (a := a) hb h0 ⟨hz, by omega⟩
      clear ha hb h1
      go_enter Try.func60, Try.ntmps60
      go_wp2
      all_goals first
        | (rename_i hh; exact absurd hh (by simp only [decide_eq_true (show (a.tmod b : Int) < 0 by omega), decide_eq_false (show ¬ (b : Int) < 0 by omega)]; decide))
        | (go_ret2; exact npost' HR.out)
  · by_cases hs : b < 0
    · have HR := Lib.hid (mod_far (a := a) h0 ⟨hz, by omega⟩)
      obtain ⟨hs2, hs3⟩ := fit_add_rem (a := a) hb h0 ⟨hz, by omega⟩
      clear ha hb h1
      go_enter Try.func60, Try.ntmps60
      go_wp2
      all_goals first
        | (rename_i hh; exact absurd hh (by simp only [decide_eq_false (show ¬ (a.tmod b : Int) < 0 by omega), decide_eq_true (show (b : Int) < 0 by omega)]; decide))
        | (go_ret2; exact npost' HR.out)
    · have HR := Lib.hid (mod_near (a := a) h0 (fun h => h.2 (by omega)))
      clear ha hb h1
      go_enter Try.func60, Try.ntmps60
      go_wp2
      all_goals first
        | (rename_i hh; exact absurd hh (by simp only [decide_eq_false (show ¬ (a.tmod b : Int) < 0 by omega), decide_eq_false (show ¬ (b : Int) < 0 by omega)]; decide))
        | (go_ret2; exact npost' HR.out)
set_option maxRecDepth 100000 in
theorem ref_Two_min (a b : Int) (ha : Fit a) (hb : Fit b) (w : World) : Calls Try.prog 60 #[.string ⟨#[109, 105, 110]⟩, .int .i64 a, .int .i64 b] w (NPost (min a b, 0) w) := by
  have HA := Lib.hid ha
  have HB := Lib.hid hb
  go_enter Try.func60, Try.ntmps60
  go_wp2
  all_goals
    go_ret2
    exact npost' (by first | rfl | (congr 1; omega))
set_option maxRecDepth 100000 in
theorem ref_Two_max (a b : Int) (ha : Fit a) (hb : Fit b) (w : World) : Calls Try.prog 60 #[.string ⟨#[109, 97, 120]⟩, .int .i64 a, .int .i64 b] w (NPost (max a b, 0) w) := by
  have HA := Lib.hid ha
  have HB := Lib.hid hb
  go_enter Try.func60, Try.ntmps60
  go_wp2
  all_goals
    go_ret2
    exact npost' (by first | rfl | (congr 1; omega))
set_option maxRecDepth 100000 in
theorem ref_Two_and (a b : Int) (ha : Fit a) (hb : Fit b) (w : World) : Calls Try.prog 60 #[.string ⟨#[47, 92]⟩, .int .i64 a, .int .i64 b] w (NPost (bits .and .i64 a b, 0) w) := by
  have HA := Lib.hid ha
  have HB := Lib.hid hb
  clear ha hb
  go_enter Try.func60, Try.ntmps60
  go_wp2_with (go_at_call 78; refine (ref_bits_and _ _ _).mono ?_; rintro e1 w1 ⟨rfl, rfl⟩)
  go_ret2
  exact npost' rfl
set_option maxRecDepth 100000 in
theorem ref_Two_or (a b : Int) (ha : Fit a) (hb : Fit b) (w : World) : Calls Try.prog 60 #[.string ⟨#[92, 47]⟩, .int .i64 a, .int .i64 b] w (NPost (bits .or .i64 a b, 0) w) := by
  have HA := Lib.hid ha
  have HB := Lib.hid hb
  clear ha hb
  go_enter Try.func60, Try.ntmps60
  go_wp2_with (go_at_call 78; refine (ref_bits_or _ _ _).mono ?_; rintro e1 w1 ⟨rfl, rfl⟩)
  go_ret2
  exact npost' rfl
set_option maxRecDepth 100000 in
theorem ref_Two_xor (a b : Int) (ha : Fit a) (hb : Fit b) (w : World) : Calls Try.prog 60 #[.string ⟨#[120, 111, 114]⟩, .int .i64 a, .int .i64 b] w (NPost (bits .xor .i64 a b, 0) w) := by
  have HA := Lib.hid ha
  have HB := Lib.hid hb
  clear ha hb
  go_enter Try.func60, Try.ntmps60
  go_wp2_with (go_at_call 78; refine (ref_bits_xor _ _ _).mono ?_; rintro e1 w1 ⟨rfl, rfl⟩)
  go_ret2
  exact npost' rfl
theorem shl_grow {a : Int} {k n : Nat} (h : ¬ Fit (a * 2 ^ k)) (hk : k ≤ n) : ¬ Fit (a * 2 ^ n) := by
  intro hf
  apply h
  have hs := two_split hk
  have hp := two_pos (n - k)
  have h1 : a * 2 ^ n = a * 2 ^ k * 2 ^ (n - k) := by rw [hs, Int.mul_assoc]
  rw [h1] at hf
  have h2 : (a * 2 ^ k).natAbs ≤ (a * 2 ^ k * 2 ^ (n - k)).natAbs := by
    rw [Int.natAbs_mul (a * 2 ^ k)]
    exact Nat.le_mul_of_pos_right _ (Int.natAbs_pos.2 (Int.ne_of_gt hp))
  have h3 : 0 ≤ a * 2 ^ k → 0 ≤ a * 2 ^ k * 2 ^ (n - k) := fun h => Int.mul_nonneg h (by omega)
  have h4 : a * 2 ^ k < 0 → a * 2 ^ k * 2 ^ (n - k) < 0 := fun h => Int.mul_neg_of_neg_of_pos h hp
  unfold Fit at *
  omega
/-- so many times moved up -/
structure UpRel (a b : Int) (w : World) (x i : Value) (wr : World) : Prop where
  at_ : ∃ k : Nat, k ≤ b.toNat ∧ i = .int .i64 (b - k) ∧ x = .int .i64 (a * 2 ^ k) ∧ Fit (a * 2 ^ k)
  same : w = wr
theorem UpRel.start (a b : Int) (ha : Fit a) (w : World) : UpRel a b w (.int .i64 a) (.int .i64 b) w := ⟨⟨0, Nat.zero_le _, by simp, by simp, by simpa using ha⟩, rfl⟩
/-- so many times moved down -/
structure DnRel (a b : Int) (w : World) (x i : Value) (wr : World) : Prop where
  at_ : ∃ k : Nat, k ≤ b.toNat ∧ i = .int .i64 (b - k) ∧ x = .int .i64 (a / 2 ^ k) ∧ Fit (a / 2 ^ k)
  same : w = wr
theorem DnRel.start (a b : Int) (ha : Fit a) (w : World) : DnRel a b w (.int .i64 a) (.int .i64 b) w := ⟨⟨0, Nat.zero_le _, by simp, by simp, by simpa using ha⟩, rfl⟩
theorem down_two (a : Int) (k : Nat) : (a / 2 ^ k).fdiv 2 = a / 2 ^ (k + 1) := by
  rw [Int.fdiv_eq_ediv_of_nonneg _ (by decide), Int.pow_succ, Int.ediv_ediv_of_nonneg (by have := two_pos k; omega)]
theorem down_fit {a : Int} (h : Fit a) : Fit (a / 2) := by unfold Fit at *; omega
theorem half_fit {a : Int} (h : Fit a) : Fit (a.tdiv 2) := tdiv_fit h (by decide)
set_option maxRecDepth 100000 in
theorem ref_Two_left (a b : Int) (ha : Fit a) (hb : Fit b) (w : World) : Calls Try.prog 60 #[.string ⟨#[60, 60]⟩, .int .i64 a, .int .i64 b] w (NPost (leftT a b) w) := by
  have HA := Lib.hid ha
  have HB := Lib.hid hb
  by_cases hbb : b < 0 ∨ 63 < b
  · have HR := Lib.hid (left_bad (a := a) hbb)
    rcases hbb with h0 | h0
    all_goals
      clear ha hb
      go_enter Try.func60, Try.ntmps60
      go_wp2
      go_ret2
      exact npost' HR.out
  have h0 : 0 ≤ b := by omega
  have h1 : b ≤ 63 := by omega
  have HBB := Lib.hid hbb
  have HST := Lib.hid (UpRel.start a b ha w)
  clear ha hb hbb
  go_enter Try.func60, Try.ntmps60
  go_wp2
  go_loopw [1, 2] (fun x i wr => UpRel a b w x i wr) (fun _ i _ => (intOf i).toNat)
  case atStart => exact HST.out
  case round =>
    obtain ⟨⟨k, hk, rfl, rfl, hf⟩, rfl⟩ := hrel
    have HF := Lib.hid hf
    clear hf HST
    have hpw : a * 2 ^ k + a * 2 ^ k = a * 2 ^ (k + 1) := by rw [Int.pow_succ, ← Int.mul_assoc]; omega
    have HPW := Lib.hid hpw
    clear hpw
    by_cases hlt : k < b.toNat
    · have hgt : 0 < b - (k : Int) := by omega
      by_cases hf2 : Fit (a * 2 ^ k + a * 2 ^ k)
      · have HF2 := Lib.hid hf2
        clear hf2
        go_wp2_with (go_at_call 74; refine (ref_add_in _ _ HF.out HF.out HF2.out _).mono ?_; rintro e1 w1 ⟨rfl, rfl⟩)
        go_roundw
        case rel => exact ⟨⟨k + 1, by omega, by congr 1; omega, by rw [HPW.out], by rw [← HPW.out]; exact HF2.out⟩, rfl⟩
        case measure => simp [intOf]; omega
      · have HF2 := Lib.hid hf2
        clear hf2
        go_wp2_with (go_at_call 74; refine (ref_add_out _ _ HF.out HF.out HF2.out _).mono ?_; rintro e1 w1 ⟨v, rfl, rfl⟩)
        go_ret2
        exact npost' (left_out HBB.out (shl_grow (k := k + 1) (by rw [← HPW.out]; exact HF2.out) (by omega)))
    · have hgt : b - (k : Int) ≤ 0 := by omega
      have HKB := Lib.hid (show b.toNat = k by omega)
      have HW := Lib.hid (wrap_in HF.out)
      go_wp2
      go_ret2
      exact npost' (by rw [left_in HBB.out (by rw [HKB.out]; exact HF.out), HKB.out, HW.out])
set_option maxRecDepth 100000 in
theorem ref_Two_right (a b : Int) (ha : Fit a) (hb : Fit b) (w : World) : Calls Try.prog 60 #[.string ⟨#[62, 62]⟩, .int .i64 a, .int .i64 b] w (NPost (rightT a b) w) := by
  have HA := Lib.hid ha
  have HB := Lib.hid hb
  by_cases h0 : b < 0
  · have HR := Lib.hid (show rightT a b = (0, 11) from if_pos h0)
    clear ha hb
    go_enter Try.func60, Try.ntmps60
    go_wp2
    go_ret2
    exact npost' HR.out
  by_cases h1 : b ≤ 63
  · have HR := Lib.hid (show rightT a b = (a / 2 ^ b.toNat, 0) by unfold rightT; rw [if_neg h0, show min b 63 = b by omega])
    have HST := Lib.hid (DnRel.start a b ha w)
    have h2 : 0 ≤ b := by omega
    clear ha hb h0
    go_enter Try.func60, Try.ntmps60
    go_wp2
    go_loopw [1, 2] (fun x i wr => DnRel a b w x i wr) (fun _ i _ => (intOf i).toNat)
    case atStart => exact HST.out
    case round =>
      obtain ⟨⟨k, hk, rfl, rfl, hf⟩, rfl⟩ := hrel
      have HF := Lib.hid hf
      have HH := Lib.hid (half_fit hf)
      have HD := Lib.hid (down_two a k)
      have HF2 := Lib.hid (show Fit (a / 2 ^ (k + 1)) by rw [← down_two, Int.fdiv_eq_ediv_of_nonneg _ (by decide)]; exact down_fit hf)
      clear hf HST
      by_cases hlt : (k : Int) < b
      · have hgt : 0 < b - (k : Int) := by omega
        go_wp2_with (go_at_call 77; refine (ref_down_in _ _ HF.out (by decide) HH.out _).mono ?_; rintro e1 w1 ⟨rfl, rfl⟩; rw [HD.out])
        go_roundw
        case rel => exact ⟨⟨k + 1, by omega, by congr 1; omega, rfl, HF2.out⟩, rfl⟩
        case measure => simp [intOf]; omega
      · have hgt : b - (k : Int) ≤ 0 := by omega
        have HKB := Lib.hid (show (b : Int).toNat = k by omega)
        go_wp2
        go_ret2
        exact npost' (by rw [HR.out, ← HKB.out])
  · have HR := Lib.hid (show rightT a b = (a / 2 ^ (63 : Int).toNat, 0) by unfold rightT; rw [if_neg h0, show min b 63 = 63 by omega])
    have HST := Lib.hid (DnRel.start a 63 ha w)
    have h2 : 63 < b := by omega
    clear ha hb h0 h1
    go_enter Try.func60, Try.ntmps60
    go_wp2
    go_loopw [1, 2] (fun x i wr => DnRel a 63 w x i wr) (fun _ i _ => (intOf i).toNat)
    case atStart => exact HST.out
    case round =>
      obtain ⟨⟨k, hk, rfl, rfl, hf⟩, rfl⟩ := hrel
      have HF := Lib.hid hf
      have HH := Lib.hid (half_fit hf)
      have HD := Lib.hid (down_two a k)
      have HF2 := Lib.hid (show Fit (a / 2 ^ (k + 1)) by rw [← down_two, Int.fdiv_eq_ediv_of_nonneg _ (by decide)]; exact down_fit hf)
      clear hf HST
      by_cases hlt : (k : Int) < 63
      · have hgt : 0 < 63 - (k : Int) := by omega
        go_wp2_with (go_at_call 77; refine (ref_down_in _ _ HF.out (by decide) HH.out _).mono ?_; rintro e1 w1 ⟨rfl, rfl⟩; rw [HD.out])
        go_roundw
        case rel => exact ⟨⟨k + 1, by omega, by congr 1; omega, rfl, HF2.out⟩, rfl⟩
        case measure => simp [intOf]; omega
      · have hgt : 63 - (k : Int) ≤ 0 := by omega
        have HKB := Lib.hid (show (63 : Int).toNat = k by omega)
        go_wp2
        go_ret2
        exact npost' (by rw [HR.out, ← HKB.out])
set_option maxRecDepth 100000 in
theorem ref_Two_pow (a b : Int) (ha : Fit a) (hb : Fit b) (w : World) : Calls Try.prog 60 #[.string ⟨#[42, 42]⟩, .int .i64 a, .int .i64 b] w (NPost (powT a b) w) := by
  have HA := Lib.hid ha
  have HB := Lib.hid hb
  by_cases h0 : 0 ≤ b
  · have H0 := Lib.hid h0
    by_cases hf : Fit (a ^ b.toNat)
    · have HF := Lib.hid hf
      clear hf ha hb
      go_enter Try.func60, Try.ntmps60
      go_wp2_with (first
        | (go_at_call 79; refine (ref_power _ _ HA.out HB.out H0.out _).mono ?_; rintro e1 w1 hpp; obtain ⟨rfl, rfl⟩ := hpp.1 HF.out; clear hpp)
        | (go_at_call 73; refine (ref_told_in _ _).mono ?_; rintro e2 w2 ⟨rfl, hb2⟩; have HB2 := Lib.hid hb2; clear hb2))
      go_ret2
      exact npost (by rw [pow_by H0.out]; exact chk_in HF.out) HB2.out
    · have HF := Lib.hid hf
      clear hf ha hb
      go_enter Try.func60, Try.ntmps60
      go_wp2_with (first
        | (go_at_call 79; refine (ref_power _ _ HA.out HB.out H0.out _).mono ?_; rintro e1 w1 hpp; obtain ⟨v, rfl, rfl⟩ := hpp.2 HF.out; clear hpp)
        | (go_at_call 73; refine (ref_told_out _ _).mono ?_; rintro e2 w2 ⟨rfl, hb2⟩; have HB2 := Lib.hid hb2; clear hb2))
      go_ret2
      exact npost (by rw [pow_by H0.out]; exact chk_out HF.out) HB2.out
  have h1 : b < 0 := by omega
  by_cases a0 : a = 0
  · subst a0
    have HR := Lib.hid (pow_zero_neg h1)
    clear ha hb
    go_enter Try.func60, Try.ntmps60
    go_wp2
    go_ret2
    exact npost' HR.out
  by_cases a1 : a = 1
  · subst a1
    have HR := Lib.hid (pow_one b)
    clear ha hb a0
    go_enter Try.func60, Try.ntmps60
    go_wp2
    go_ret2
    exact npost' HR.out
  by_cases a2 : a = -1
  · subst a2
    have HR := Lib.hid (pow_minus b)
    clear ha hb a0 a1
    by_cases h4 : b % 2 = 0
    · have hx : (b.tmod 2 == 0) = true := by
        have : b.tmod 2 = 0 := Int.dvd_iff_tmod_eq_zero.1 (by omega)
        simpa using this
      have HX := Lib.hid h4
      clear h4
      go_enter Try.func60, Try.ntmps60
      go_wp2
      go_ret2
      exact npost' (by rw [HR.out, if_pos HX.out])
    · have hx : (b.tmod 2 == 0) = false := by
        have : b.tmod 2 ≠ 0 := fun e => h4 (by have := Int.dvd_iff_tmod_eq_zero.2 e; omega)
        simpa using this
      have HX := Lib.hid h4
      clear h4
      go_enter Try.func60, Try.ntmps60
      go_wp2
      go_ret2
      exact npost' (by rw [HR.out, if_neg HX.out])
  have HR := Lib.hid (pow_far' (a := a) (b := b) (by omega) (.inl h1))
  have b0 : (a == 0) = false := by simpa using a0
  have b1 : (a == 1) = false := by simpa using a1
  have b2 : (a == -1) = false := by simpa using a2
  clear ha hb a0 a1 a2
  go_enter Try.func60, Try.ntmps60
  go_wp2
  go_ret2
  exact npost' HR.out
set_option maxRecDepth 100000 in
theorem ref_Two_pow2 (a b : Int) (ha : Fit a) (hb : Fit b) (w : World) : Calls Try.prog 60 #[.string ⟨#[94]⟩, .int .i64 a, .int .i64 b] w (NPost (powT a b) w) := by
  have HA := Lib.hid ha
  have HB := Lib.hid hb
  by_cases h0 : 0 ≤ b
  · have H0 := Lib.hid h0
    by_cases hf : Fit (a ^ b.toNat)
    · have HF := Lib.hid hf
      clear hf ha hb
      go_enter Try.func60, Try.ntmps60
      go_wp2_with (first
        | (go_at_call 79; refine (ref_power _ _ HA.out HB.out H0.out _).mono ?_; rintro e1 w1 hpp; obtain ⟨rfl, rfl⟩ := hpp.1 HF.out; clear hpp)
        | (go_at_call 73; refine (ref_told_in _ _).mono ?_; rintro e2 w2 ⟨rfl, hb2⟩; have HB2 := Lib.hid hb2; clear hb2))
      go_ret2
      exact npost (by rw [pow_by H0.out]; exact chk_in HF.out) HB2.out
    · have HF := Lib.hid hf
      clear hf ha hb
      go_enter Try.func60, Try.ntmps60
      go_wp2_with (first
        | (go_at_call 79; refine (ref_power _ _ HA.out HB.out H0.out _).mono ?_; rintro e1 w1 hpp; obtain ⟨v, rfl, rfl⟩ := hpp.2 HF.out; clear hpp)
        | (go_at_call 73; refine (ref_told_out _ _).mono ?_; rintro e2 w2 ⟨rfl, hb2⟩; have HB2 := Lib.hid hb2; clear hb2))
      go_ret2
      exact npost (by rw [pow_by H0.out]; exact chk_out HF.out) HB2.out
  have h1 : b < 0 := by omega
  by_cases a0 : a = 0
  · subst a0
    have HR := Lib.hid (pow_zero_neg h1)
    clear ha hb
    go_enter Try.func60, Try.ntmps60
    go_wp2
    go_ret2
    exact npost' HR.out
  by_cases a1 : a = 1
  · subst a1
    have HR := Lib.hid (pow_one b)
    clear ha hb a0
    go_enter Try.func60, Try.ntmps60
    go_wp2
    go_ret2
    exact npost' HR.out
  by_cases a2 : a = -1
  · subst a2
    have HR := Lib.hid (pow_minus b)
    clear ha hb a0 a1
    by_cases h4 : b % 2 = 0
    · have hx : (b.tmod 2 == 0) = true := by
        have : b.tmod 2 = 0 := Int.dvd_iff_tmod_eq_zero.1 (by omega)
        simpa using this
      have HX := Lib.hid h4
      clear h4
      go_enter Try.func60, Try.ntmps60
      go_wp2
      go_ret2
      exact npost' (by rw [HR.out, if_pos HX.out])
    · have hx : (b.tmod 2 == 0) = false := by
        have : b.tmod 2 ≠ 0 := fun e => h4 (by have := Int.dvd_iff_tmod_eq_zero.2 e; omega)
        simpa using this
      have HX := Lib.hid h4
      clear h4
      go_enter Try.func60, Try.ntmps60
      go_wp2
      go_ret2
      exact npost' (by rw [HR.out, if_neg HX.out])
  have HR := Lib.hid (pow_far' (a := a) (b := b) (by omega) (.inl h1))
  have b0 : (a == 0) = false := by simpa using a0
  have b1 : (a == 1) = false := by simpa using a1
  have b2 : (a == -1) = false := by simpa using a2
  clear ha hb a0 a1 a2
  go_enter Try.func60, Try.ntmps60
  go_wp2
  go_ret2
  exact npost' HR.out
set_option maxRecDepth 100000 in
theorem ref_Two_no (op : ByteArray) (a b : Int) (h0 : (op.toList == [47, 47]) = false) (h1 : (op.toList == [114, 101, 109]) = false) (h2 : (op.toList == [109, 111, 100]) = false) (h3 : (op.toList == [100, 105, 118]) = false) (h4 : (op.toList == [43]) = false) (h5 : (op.toList == [45]) = false) (h6 : (op.toList == [42]) = false) (h7 : (op.toList == [109, 105, 110]) = false) (h8 : (op.toList == [109, 97, 120]) = false) (h9 : (op.toList == [47, 92]) = false) (h10 : (op.toList == [92, 47]) = false) (h11 : (op.toList == [120, 111, 114]) = false) (h12 : (op.toList == [60, 60]) = false) (h13 : (op.toList == [62, 62]) = false) (h14 : (op.toList == [42, 42]) = false) (h15 : (op.toList == [94]) = false) (w : World) : Calls Try.prog 60 #[.string op, .int .i64 a, .int .i64 b] w (NPost (0, 8) w) := by
  go_enter Try.func60, Try.ntmps60
  go_wp2
  go_ret2
  exact npost' rfl
theorem ref_Two (op : ByteArray) (a b : Int) (ha : Fit a) (hb : Fit b) (w : World) : Calls Try.prog 60 #[.string op, .int .i64 a, .int .i64 b] w (NPost (twoT op a b) w) := by
  unfold twoT
  by_cases h0 : op = ⟨#[43]⟩
  · rw [if_pos h0]; subst h0; exact ref_Two_add a b ha hb w
  rw [if_neg h0]
  by_cases h1 : op = ⟨#[45]⟩
  · rw [if_pos h1]; subst h1; exact ref_Two_sub a b ha hb w
  rw [if_neg h1]
  by_cases h2 : op = ⟨#[42]⟩
  · rw [if_pos h2]; subst h2; exact ref_Two_mul a b ha hb w
  rw [if_neg h2]
  by_cases h3 : op = ⟨#[47, 47]⟩
  · rw [if_pos h3]; subst h3; exact ref_Two_quot a b ha hb w
  rw [if_neg h3]
  by_cases h4 : op = ⟨#[114, 101, 109]⟩
  · rw [if_pos h4]; subst h4; exact ref_Two_rem a b ha hb w
  rw [if_neg h4]
  by_cases h5 : op = ⟨#[100, 105, 118]⟩
  · rw [if_pos h5]; subst h5; exact ref_Two_div a b ha hb w
  rw [if_neg h5]
  by_cases h6 : op = ⟨#[109, 111, 100]⟩
  · rw [if_pos h6]; subst h6; exact ref_Two_mod a b ha hb w
  rw [if_neg h6]
  by_cases h7 : op = ⟨#[109, 105, 110]⟩
  · rw [if_pos h7]; subst h7; exact ref_Two_min a b ha hb w
  rw [if_neg h7]
  by_cases h8 : op = ⟨#[109, 97, 120]⟩
  · rw [if_pos h8]; subst h8; exact ref_Two_max a b ha hb w
  rw [if_neg h8]
  by_cases h9 : op = ⟨#[47, 92]⟩
  · rw [if_pos h9]; subst h9; exact ref_Two_and a b ha hb w
  rw [if_neg h9]
  by_cases h10 : op = ⟨#[92, 47]⟩
  · rw [if_pos h10]; subst h10; exact ref_Two_or a b ha hb w
  rw [if_neg h10]
  by_cases h11 : op = ⟨#[120, 111, 114]⟩
  · rw [if_pos h11]; subst h11; exact ref_Two_xor a b ha hb w
  rw [if_neg h11]
  by_cases h12 : op = ⟨#[60, 60]⟩
  · rw [if_pos h12]; subst h12; exact ref_Two_left a b ha hb w
  rw [if_neg h12]
  by_cases h13 : op = ⟨#[62, 62]⟩
  · rw [if_pos h13]; subst h13; exact ref_Two_right a b ha hb w
  rw [if_neg h13]
  by_cases h14 : op = ⟨#[42, 42]⟩
  · rw [if_pos h14]; subst h14; exact ref_Two_pow a b ha hb w
  rw [if_neg h14]
  by_cases h15 : op = ⟨#[94]⟩
  · rw [if_pos h15]; subst h15; exact ref_Two_pow2 a b ha hb w
  rw [if_neg h15]
  exact ref_Two_no op a b (bytes_no h3) (bytes_no h4) (bytes_no h6) (bytes_no h5) (bytes_no h0) (bytes_no h1) (bytes_no h2) (bytes_no h7) (bytes_no h8) (bytes_no h9) (bytes_no h10) (bytes_no h11) (bytes_no h12) (bytes_no h13) (bytes_no h14) (bytes_no h15) w
end Go.Proofs.Ytibjcfbilkkmkaa.Num
