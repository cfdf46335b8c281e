
/-
  Layer 1's reference: add, mul, quo, down, power, told, walked over the program.
-/
import Derived.Test.YtibjcfbilkkmkaaNuC
namespace Go.Proofs.Ytibjcfbilkkmkaa.Num
open Go Go.RowKit Go.Proofs.Ytibjcfbilkkmkaa.Reg
set_option linter.unusedVariables false
set_option linter.unusedSimpArgs false

/-- the number, and that it is within; or any number, and that it is beyond -/
def CIn (r : Int) (w : World) (e : Ending) (w' : World) : Prop := e = .returned (.tuple #[.int .i64 r, .bool true]) ∧ w = w'
def COut (w : World) (e : Ending) (w' : World) : Prop := ∃ v : Int, e = .returned (.tuple #[.int .i64 v, .bool false]) ∧ w = w'
theorem cin {r v : Int} (w : World) (h : v = r) : CIn r w (.returned (.tuple #[.int .i64 v, .bool true])) w := by subst h; exact ⟨rfl, rfl⟩
theorem cout (v : Int) (w : World) : COut w (.returned (.tuple #[.int .i64 v, .bool false])) w := ⟨v, rfl, rfl⟩
theorem npost' {r : Int × Int} {v x : Int} {w : World} (h : r = (v, x)) : NPost r w (.returned (.tuple #[.int .i64 v, .int .i64 x])) w := npost h (Below.refl _ _)

theorem ref_told_in (n : Int) (w : World) : Calls Try.prog 73 #[.int .i64 n, .bool true] w (NPost (n, 0) w) := by
  go_enter Try.func73, Try.ntmps73
  go_wp2
  go_ret2
  exact npost' rfl
theorem ref_told_out (n : Int) (w : World) : Calls Try.prog 73 #[.int .i64 n, .bool false] w (NPost (0, 11) w) := by
  go_enter Try.func73, Try.ntmps73
  go_wp2
  go_ret2
  exact npost' rfl
theorem ref_add_in (a b : Int) (ha : Fit a) (hb : Fit b) (h : Fit (a + b)) (w : World) : Calls Try.prog 74 #[.int .i64 a, .int .i64 b] w (CIn (a + b) w) := by
  obtain ⟨ha0, ha1⟩ := ha
  obtain ⟨hb0, hb1⟩ := hb
  obtain ⟨h0, h1⟩ := h
  go_enter Try.func74, Try.ntmps74
  go_wp2
  all_goals first
    | omega
    | (go_ret2; exact cin _ rfl)
theorem ref_add_out (a b : Int) (ha : Fit a) (hb : Fit b) (h : ¬ Fit (a + b)) (w : World) : Calls Try.prog 74 #[.int .i64 a, .int .i64 b] w (COut w) := by
  obtain ⟨ha0, ha1⟩ := ha
  obtain ⟨hb0, hb1⟩ := hb
  unfold Fit at h
  go_enter Try.func74, Try.ntmps74
  go_wp2
  all_goals first
    | omega
    | (go_ret2; exact cout _ _)
theorem neg_fit {a : Int} (ha : Fit a) : Fit (-a) ↔ a ≠ -9223372036854775808 := by unfold Fit at *; omega
set_option maxRecDepth 100000 in
theorem ref_mul_in (a b : Int) (ha : Fit a) (hb : Fit b) (h : Fit (a * b)) (w : World) : Calls Try.prog 75 #[.int .i64 a, .int .i64 b] w (CIn (a * b) w) := by
  by_cases h1 : a = 0
  · subst h1
    go_enter Try.func75, Try.ntmps75
    go_wp2
    go_ret2
    exact cin _ (by simp)
  by_cases h2 : b = 0
  · subst h2
    have a0 : (a == 0) = false := by simpa using h1
    go_enter Try.func75, Try.ntmps75
    go_wp2
    go_ret2
    exact cin _ (by simp)
  have a0 : (a == 0) = false := by simpa using h1
  have b0 : (b == 0) = false := by simpa using h2
  by_cases h3 : a = -1
  · subst h3
    rw [Int.neg_one_mul] at h
    have hl : (b != -9223372036854775808) = true := by simpa using (neg_fit hb).1 h
    have HW := Lib.hid (wrap_in h)
    clear ha hb h h1
    go_enter Try.func75, Try.ntmps75
    go_wp2
    go_ret2
    exact cin _ (by rw [Int.neg_one_mul]; first | exact HW.out | rw [Int.mul_neg_one, HW.out])
  have a1 : (a == -1) = false := by simpa using h3
  by_cases h4 : b = -1
  · subst h4
    rw [Int.mul_neg_one] at h
    have hl : (a != -9223372036854775808) = true := by simpa using (neg_fit ha).1 h
    have HW := Lib.hid (wrap_in h)
    clear ha hb h h1 h3
    go_enter Try.func75, Try.ntmps75
    go_wp2
    go_ret2
    exact cin _ (by rw [Int.mul_neg_one]; first | exact HW.out | rw [HW.out])
  have b1 : (b == -1) = false := by simpa using h4
  have hm : (((wrap64 (a * b)).tdiv b) != a) = false := by simpa using (mul_back ha hb h2 h4).2 h
  have HQ := Lib.hid (wrap_in (tdiv_fit (wrap_fit (a * b)) h4))
  have hm2 : (wrap64 ((wrap64 (a * b)).tdiv b) != a) = false := by rw [HQ.out]; exact hm
  have HW := Lib.hid (wrap_in h)
  clear h h1 h3 h4 ha hb hm
  go_enter Try.func75, Try.ntmps75
  go_wp2
  go_ret2
  exact cin _ HW.out
set_option maxRecDepth 100000 in
theorem ref_mul_out (a b : Int) (ha : Fit a) (hb : Fit b) (h : ¬ Fit (a * b)) (w : World) : Calls Try.prog 75 #[.int .i64 a, .int .i64 b] w (COut w) := by
  have h1 : a ≠ 0 := fun e => h (by rw [e, Int.zero_mul]; decide)
  have h2 : b ≠ 0 := fun e => h (by rw [e, Int.mul_zero]; decide)
  have a0 : (a == 0) = false := by simpa using h1
  have b0 : (b == 0) = false := by simpa using h2
  by_cases h3 : a = -1
  · subst h3
    rw [Int.neg_one_mul] at h
    have hl : (b != -9223372036854775808) = false := by have := mt (neg_fit hb).2 h; simpa using this
    clear ha hb h h1
    go_enter Try.func75, Try.ntmps75
    go_wp2
    go_ret2
    exact cout _ _
  have a1 : (a == -1) = false := by simpa using h3
  by_cases h4 : b = -1
  · subst h4
    rw [Int.mul_neg_one] at h
    have hl : (a != -9223372036854775808) = false := by have := mt (neg_fit ha).2 h; simpa using this
    clear ha hb h h1 h3
    go_enter Try.func75, Try.ntmps75
    go_wp2
    go_ret2
    exact cout _ _
  have b1 : (b == -1) = false := by simpa using h4
  have hm : (((wrap64 (a * b)).tdiv b) != a) = true := by have := mt (mul_back ha hb h2 h4).1 h; simpa using this
  have HQ := Lib.hid (wrap_in (tdiv_fit (wrap_fit (a * b)) h4))
  have hm2 : (wrap64 ((wrap64 (a * b)).tdiv b) != a) = true := by rw [HQ.out]; exact hm
  clear h h1 h3 h4 ha hb hm
  go_enter Try.func75, Try.ntmps75
  go_wp2
  go_ret2
  exact cout _ _
theorem tdiv_m1 (a : Int) : a.tdiv (-1) = a * -1 := by simp [Int.tdiv_neg]
set_option maxRecDepth 100000 in
theorem ref_quo_in (a b : Int) (ha : Fit a) (h0 : b ≠ 0) (h : Fit (a.tdiv b)) (w : World) : Calls Try.prog 76 #[.int .i64 a, .int .i64 b] w (CIn (a.tdiv b) w) := by
  have HA := Lib.hid ha
  by_cases h1 : b = -1
  · subst h1
    rw [tdiv_m1] at h ⊢
    have H := Lib.hid h
    clear h ha
    go_enter Try.func76, Try.ntmps76
    go_wp2_with (go_at_call 75; refine (ref_mul_in _ _ HA.out (by decide) H.out _).mono ?_; rintro e1 w1 ⟨rfl, rfl⟩)
    go_ret2
    exact cin _ (by simp)
  · have b1 : (b == -1) = false := by simpa using h1
    have b0 : (b == 0) = false := by simpa using h0
    have HW := Lib.hid (wrap_in h)
    clear h ha h1
    go_enter Try.func76, Try.ntmps76
    go_wp2
    go_ret2
    exact cin _ HW.out
set_option maxRecDepth 100000 in
theorem ref_quo_out (a b : Int) (ha : Fit a) (h0 : b ≠ 0) (h : ¬ Fit (a.tdiv b)) (w : World) : Calls Try.prog 76 #[.int .i64 a, .int .i64 b] w (COut w) := by
  have HA := Lib.hid ha
  have h1 : b = -1 := Classical.byContradiction fun e => h (tdiv_fit ha e)
  subst h1
  rw [tdiv_m1] at h
  have H := Lib.hid h
  clear h ha
  go_enter Try.func76, Try.ntmps76
  go_wp2_with (go_at_call 75; refine (ref_mul_out _ _ HA.out (by decide) H.out _).mono ?_; rintro e1 w1 ⟨v, rfl, rfl⟩)
  go_ret2
  exact cout _ _
theorem tdiv_m {a b : Int} (h0 : b ≠ 0) (h : ¬ Fit (a.tdiv b)) (ha : Fit a) : b = -1 := Classical.byContradiction fun e => h (tdiv_fit ha e)
theorem div_out {a b : Int} (ha : Fit a) (h0 : b ≠ 0) (h : ¬ Fit (a.tdiv b)) : divT a b = (0, 11) := by
  obtain rfl := tdiv_m h0 h ha
  rw [div_one, ← Int.mul_neg_one, ← tdiv_m1]; exact chk_out h
theorem fdiv_m1 (a : Int) : a.fdiv (-1) = a.tdiv (-1) := by simp [Int.tdiv_neg, Int.fdiv_neg]
theorem div_in {a b : Int} (ha : Fit a) (h0 : b ≠ 0) (h : Fit (a.tdiv b)) : divT a b = (a.fdiv b, 0) := by
  by_cases h1 : b = -1
  · subst h1
    unfold divT; rw [if_neg h0, fdiv_m1, chk_in h]
  · by_cases hp : Apart (a.tmod b) b
    · rw [div_far ha h0 h1 hp, fdiv_far h0 hp]
    · rw [div_near ha h0 h1 hp, fdiv_near h0 hp]
theorem far_of {a b : Int} (h : a.tmod b ≠ 0) (hs : ¬ (a < 0 ↔ b < 0)) : Apart (a.tmod b) b := by
  have := tmod_sign (a := a) (b := b)
  exact ⟨h, by omega⟩
theorem near_of {a b : Int} (h : a.tmod b = 0 ∨ (a < 0 ↔ b < 0)) : ¬ Apart (a.tmod b) b := by
  have := tmod_sign (a := a) (b := b)
  rintro ⟨h1, h2⟩
  rcases h with h | h
  · exact h1 h
  · omega
set_option maxRecDepth 100000 in
theorem ref_down_out (a b : Int) (ha : Fit a) (h0 : b ≠ 0) (h : ¬ Fit (a.tdiv b)) (w : World) : Calls Try.prog 77 #[.int .i64 a, .int .i64 b] w (COut w) := by
  have HA := Lib.hid ha
  have H0 := Lib.hid h0
  have H := Lib.hid h
  clear h ha h0
  go_enter Try.func77, Try.ntmps77
  go_wp2_with (go_at_call 76; refine (ref_quo_out _ _ HA.out H0.out H.out _).mono ?_; rintro e1 w1 ⟨v, rfl, rfl⟩)
  go_ret2
  exact cout _ _
set_option maxRecDepth 100000 in
theorem ref_down_in (a b : Int) (ha : Fit a) (h0 : b ≠ 0) (h : Fit (a.tdiv b)) (w : World) : Calls Try.prog 77 #[.int .i64 a, .int .i64 b] w (CIn (a.fdiv b) w) := by
  have HA := Lib.hid ha
  have H0 := Lib.hid h0
  have H := Lib.hid h
  by_cases h1 : b = -1
  · subst h1
    have HE := Lib.hid ((fdiv_m1 a).trans (by simp [Int.tdiv_neg]) : a.fdiv (-1) = -a)
    clear h ha h0
    go_enter Try.func77, Try.ntmps77
    go_wp2_with (go_at_call 76; refine (ref_quo_in _ _ HA.out H0.out H.out _).mono ?_; rintro e1 w1 ⟨rfl, rfl⟩)
    go_ret2
    exact cin _ HE.out.symm
  have b1 : (b != -1) = true := by simpa using h1
  have b0 : (b == 0) = false := by simpa using h0
  by_cases hz : a.tmod b = 0
  · have z0 : (a.tmod b != 0) = false := by simpa using hz
    have z1 : (0 ≤ a → (a % b != 0) = false) := fun h => by rw [← Int.tmod_eq_emod_of_nonneg h]; exact z0
    have HZ := Lib.hid z1
    clear z1
    have HE := Lib.hid (fdiv_near (a := a) h0 (near_of (.inl hz)))
    clear h ha h1 hz
    by_cases hs : a < 0
    · go_enter Try.func77, Try.ntmps77
      go_wp2_with (go_at_call 76; refine (ref_quo_in _ _ HA.out H0.out H.out _).mono ?_; rintro e1 w1 ⟨rfl, rfl⟩)
      go_ret2
      exact cin _ HE.out.symm
    · have z1 := HZ.out (by omega)
      go_enter Try.func77, Try.ntmps77
      go_wp2_with (go_at_call 76; refine (ref_quo_in _ _ HA.out H0.out H.out _).mono ?_; rintro e1 w1 ⟨rfl, rfl⟩)
      go_ret2
      exact cin _ HE.out.symm
  have z0 : (a.tmod b != 0) = true := by simpa using hz
  by_cases hs : a < 0
  · by_cases hb : b < 0
    · have HE := Lib.hid (fdiv_near (a := a) h0 (near_of (.inr (by omega))))
      have d1 : decide (a < 0) = true := by simpa using hs
      have d2 : decide (b < 0) = true := by simpa using hb
      clear h ha h1 hz
      go_enter Try.func77, Try.ntmps77
      go_wp2_with (go_at_call 76; refine (ref_quo_in _ _ HA.out H0.out H.out _).mono ?_; rintro e1 w1 ⟨rfl, rfl⟩)
      go_ret2
      exact cin _ HE.out.symm
    · have hf := far_of hz (by omega : ¬ (a < 0 ↔ b < 0))
      have HE := Lib.hid (fdiv_far (a := a) h0 hf)
      obtain ⟨hq0, hq1⟩ := tdiv_half ha h0 h1 hf
      have d1 : decide (a < 0) = true := by simpa using hs
      have d2 : decide (b < 0) = false := by simpa using hb
      clear h ha h1 hz hf
      go_enter Try.func77, Try.ntmps77
      go_wp2_with (go_at_call 76; refine (ref_quo_in _ _ HA.out H0.out H.out _).mono ?_; rintro e1 w1 ⟨rfl, rfl⟩)
      go_ret2
      exact cin _ HE.out.symm
  · by_cases hb : b < 0
    · have hf := far_of hz (by omega : ¬ (a < 0 ↔ b < 0))
      have HE := Lib.hid (fdiv_far (a := a) h0 hf)
      obtain ⟨hq0, hq1⟩ := tdiv_half ha h0 h1 hf
      have d1 : decide (a < 0) = false := by simpa using hs
      have d2 : decide (b < 0) = true := by simpa using hb
      have z1 : (a % b != 0) = true := by rw [← Int.tmod_eq_emod_of_nonneg (by omega)]; exact z0
      clear h ha h1 hz hf
      go_enter Try.func77, Try.ntmps77
      go_wp2_with (go_at_call 76; refine (ref_quo_in _ _ HA.out H0.out H.out _).mono ?_; rintro e1 w1 ⟨rfl, rfl⟩)
      go_ret2
      exact cin _ HE.out.symm
    · have HE := Lib.hid (fdiv_near (a := a) h0 (near_of (.inr (by omega))))
      have d1 : decide (a < 0) = false := by simpa using hs
      have d2 : decide (b < 0) = false := by simpa using hb
      have z1 : (a % b != 0) = true := by rw [← Int.tmod_eq_emod_of_nonneg (by omega)]; exact z0
      clear h ha h1 hz
      go_enter Try.func77, Try.ntmps77
      go_wp2_with (go_at_call 76; refine (ref_quo_in _ _ HA.out H0.out H.out _).mono ?_; rintro e1 w1 ⟨rfl, rfl⟩)
      go_ret2
      exact cin _ HE.out.symm
structure RpRel (a b : Int) (w : World) (n i : Value) (wr : World) : Prop where
  at_ : ∃ k : Nat, k ≤ b.toNat ∧ i = .int .i64 (b - k) ∧ n = .int .i64 (a ^ k) ∧ Fit (a ^ k)
  same : w = wr
theorem RpRel.start (a b : Int) (w : World) : RpRel a b w (.int .i64 1) (.int .i64 b) w :=
  ⟨⟨0, Nat.zero_le _, by simp, by rw [Int.pow_zero], by rw [Int.pow_zero]; decide⟩, rfl⟩
/-- whether the power is within; its number -/
def PowPost (r : Int) (w : World) (e : Ending) (w' : World) : Prop := (Fit r → CIn r w e w') ∧ (¬ Fit r → COut w e w')
theorem powpost_in {r v : Int} {w : World} (h : Fit r) (e : v = r) : PowPost r w (.returned (.tuple #[.int .i64 v, .bool true])) w := ⟨fun _ => cin w e, fun h' => absurd h h'⟩
theorem powpost_out {r v : Int} {w : World} (h : ¬ Fit r) : PowPost r w (.returned (.tuple #[.int .i64 v, .bool false])) w := ⟨fun h' => absurd h' h, fun _ => cout v w⟩
set_option maxRecDepth 100000 in
theorem ref_power (a b : Int) (ha : Fit a) (hb : Fit b) (h0 : 0 ≤ b) (w : World) : Calls Try.prog 79 #[.int .i64 a, .int .i64 b] w (PowPost (a ^ b.toNat) w) := by
  have HA := Lib.hid ha
  by_cases h1 : a = 0
  · subst h1
    by_cases h2 : b = 0
    · subst h2
      go_enter Try.func79, Try.ntmps79
      go_wp2
      go_ret2
      exact powpost_in (by decide) (by decide)
    · have b0 : (b == 0) = false := by simpa using h2
      have hp : (0 : Int) ^ b.toNat = 0 := Int.zero_pow (by omega)
      have HP := Lib.hid hp
      clear hp
      go_enter Try.func79, Try.ntmps79
      go_wp2
      go_ret2
      exact powpost_in (by rw [HP.out]; decide) HP.out.symm
  by_cases h2 : a = 1
  · subst h2
    have HP := Lib.hid (Int.one_pow (n := b.toNat))
    by_cases h2 : b = 0
    · subst h2
      go_enter Try.func79, Try.ntmps79
      go_wp2
      go_ret2
      exact powpost_in (by decide) (by decide)
    · have b0 : (b == 0) = false := by simpa using h2
      clear h1
      go_enter Try.func79, Try.ntmps79
      go_wp2
      go_ret2
      exact powpost_in (by rw [HP.out]; decide) HP.out.symm
  by_cases h3 : a = -1
  · subst h3
    have HP := Lib.hid (neg_one_pow b.toNat)
    by_cases h3 : b = 0
    · subst h3
      go_enter Try.func79, Try.ntmps79
      go_wp2
      go_ret2
      exact powpost_in (by decide) (by decide)
    have b0 : (b == 0) = false := by simpa using h3
    clear h1 h2
    by_cases h4 : b % 2 = 0
    · have hx : (b % 2 == 0) = true := by simpa using h4
      have HX := Lib.hid (show b.toNat % 2 = 0 by omega)
      go_enter Try.func79, Try.ntmps79
      go_wp2
      go_ret2
      exact powpost_in (by rw [HP.out, if_pos HX.out]; decide) (by rw [HP.out, if_pos HX.out])
    · have hx : (b % 2 == 0) = false := by simpa using h4
      have HX := Lib.hid (show ¬ b.toNat % 2 = 0 by omega)
      clear h4
      go_enter Try.func79, Try.ntmps79
      go_wp2
      go_ret2
      exact powpost_in (by rw [HP.out, if_neg HX.out]; decide) (by rw [HP.out, if_neg HX.out])
  have a0 : (a == 0) = false := by simpa using h1
  have a1 : (a == 1) = false := by simpa using h2
  have a2 : (a == -1) = false := by simpa using h3
  have HN := Lib.hid (show 2 ≤ a.natAbs by omega)
  clear h1 h2 h3 ha
  have HST := Lib.hid (RpRel.start a b w)
  go_enter Try.func79, Try.ntmps79
  go_wp2
  go_loopw [6, 1] (fun n i wr => RpRel a b w n i wr) (fun _ i _ => (intOf i).toNat)
  case atStart => exact HST.out
  case round =>
    obtain ⟨⟨k, hk, rfl, rfl, hf⟩, rfl⟩ := hrel
    have HF := Lib.hid hf
    obtain ⟨hb0, hb1⟩ := hb
    clear hf HST
    by_cases hlt : k < b.toNat
    · have hgt : 0 < b - (k : Int) := by omega
      by_cases hf2 : Fit (a ^ k * a)
      · have HF2 := Lib.hid hf2
        clear hf2
        go_wp2_with (go_at_call 75; refine (ref_mul_in _ _ HF.out HA.out HF2.out _).mono ?_; rintro e1 w1 ⟨rfl, rfl⟩)
        go_roundw
        case rel => exact ⟨⟨k + 1, by omega, by congr 1; omega, by rw [Int.pow_succ], by rw [Int.pow_succ]; exact HF2.out⟩, rfl⟩
        case measure => simp [intOf]; omega
      · have HF2 := Lib.hid hf2
        clear hf2
        go_wp2_with (go_at_call 75; refine (ref_mul_out _ _ HF.out HA.out HF2.out _).mono ?_; rintro e1 w1 ⟨v, rfl, rfl⟩)
        go_ret2
        exact powpost_out (pow_out HN.out (k := k + 1) (by rw [Int.pow_succ]; exact HF2.out) (by omega))
    · have hgt : b - (k : Int) ≤ 0 := by omega
      have HKB := Lib.hid (show b.toNat = k by omega)
      go_wp2
      go_ret2
      exact powpost_in (by rw [HKB.out]; exact HF.out) (by rw [HKB.out])
end Go.Proofs.Ytibjcfbilkkmkaa.Num
