
/-
  Layer 1: the laws NumShifts, NumPowers, NumBits and NumReckons, walked over the program (printed by gen_nul.py).
-/
import Derived.Test.YtdhljihikbofbaaDoorNuL1
namespace Go.Proofs.YtdhljihikbofbaaDoor.Num
open Go Go.RowKit Go.Proofs.YtdhljihikbofbaaDoor.Reg
set_option linter.unusedVariables false
set_option linter.unusedSimpArgs false

theorem two_add (a b : Int) : twoT ⟨#[43]⟩ a b = chk (a + b) := by unfold twoT; rw [if_pos rfl]
theorem two_sub_ (a b : Int) : twoT ⟨#[45]⟩ a b = chk (a - b) := by unfold twoT; rw [if_neg (by decide), if_pos rfl]
theorem two_mul (a b : Int) : twoT ⟨#[42]⟩ a b = chk (a * b) := by unfold twoT; rw [if_neg (by decide), if_neg (by decide), if_pos rfl]
theorem two_min (a b : Int) : twoT ⟨#[109, 105, 110]⟩ a b = (min a b, 0) := by unfold twoT; rw [if_neg (by decide), if_neg (by decide), if_neg (by decide), if_neg (by decide), if_neg (by decide), if_neg (by decide), if_neg (by decide), if_pos rfl]
theorem two_max (a b : Int) : twoT ⟨#[109, 97, 120]⟩ a b = (max a b, 0) := by unfold twoT; rw [if_neg (by decide), if_neg (by decide), if_neg (by decide), if_neg (by decide), if_neg (by decide), if_neg (by decide), if_neg (by decide), if_neg (by decide), if_pos rfl]
theorem two_and (a b : Int) : twoT ⟨#[47, 92]⟩ a b = (bits .and .i64 a b, 0) := by unfold twoT; rw [if_neg (by decide), if_neg (by decide), if_neg (by decide), if_neg (by decide), if_neg (by decide), if_neg (by decide), if_neg (by decide), if_neg (by decide), if_neg (by decide), if_pos rfl]
theorem two_or (a b : Int) : twoT ⟨#[92, 47]⟩ a b = (bits .or .i64 a b, 0) := by unfold twoT; rw [if_neg (by decide), if_neg (by decide), if_neg (by decide), if_neg (by decide), if_neg (by decide), if_neg (by decide), if_neg (by decide), if_neg (by decide), if_neg (by decide), if_neg (by decide), if_pos rfl]
theorem two_xor (a b : Int) : twoT ⟨#[120, 111, 114]⟩ a b = (bits .xor .i64 a b, 0) := by unfold twoT; rw [if_neg (by decide), if_neg (by decide), if_neg (by decide), if_neg (by decide), if_neg (by decide), if_neg (by decide), if_neg (by decide), if_neg (by decide), if_neg (by decide), if_neg (by decide), if_neg (by decide), if_pos rfl]
theorem two_left (a b : Int) : twoT ⟨#[60, 60]⟩ a b = leftT a b := by unfold twoT; rw [if_neg (by decide), if_neg (by decide), if_neg (by decide), if_neg (by decide), if_neg (by decide), if_neg (by decide), if_neg (by decide), if_neg (by decide), if_neg (by decide), if_neg (by decide), if_neg (by decide), if_neg (by decide), if_pos rfl]
theorem two_right (a b : Int) : twoT ⟨#[62, 62]⟩ a b = rightT a b := by unfold twoT; rw [if_neg (by decide), if_neg (by decide), if_neg (by decide), if_neg (by decide), if_neg (by decide), if_neg (by decide), if_neg (by decide), if_neg (by decide), if_neg (by decide), if_neg (by decide), if_neg (by decide), if_neg (by decide), if_neg (by decide), if_pos rfl]
theorem two_pow (a b : Int) : twoT ⟨#[42, 42]⟩ a b = powT a b := by unfold twoT; rw [if_neg (by decide), if_neg (by decide), if_neg (by decide), if_neg (by decide), if_neg (by decide), if_neg (by decide), if_neg (by decide), if_neg (by decide), if_neg (by decide), if_neg (by decide), if_neg (by decide), if_neg (by decide), if_neg (by decide), if_neg (by decide), if_pos rfl]
theorem two_pow2 (a b : Int) : twoT ⟨#[94]⟩ a b = powT a b := by unfold twoT; rw [if_neg (by decide), if_neg (by decide), if_neg (by decide), if_neg (by decide), if_neg (by decide), if_neg (by decide), if_neg (by decide), if_neg (by decide), if_neg (by decide), if_neg (by decide), if_neg (by decide), if_neg (by decide), if_neg (by decide), if_neg (by decide), if_neg (by decide), if_pos rfl]
theorem one_turn (a : Int) : oneT ⟨#[92]⟩ a = (bits .xor .i64 (-1) a, 0) := by unfold oneT; rw [if_neg (by decide), if_neg (by decide), if_neg (by decide), if_neg (by decide), if_pos rfl]
theorem one_neg (a : Int) : oneT ⟨#[45]⟩ a = chk (-a) := by unfold oneT; rw [if_pos rfl]
theorem shift_div {a : Int} (ha : Fit a) (k : Nat) (hk : k ≤ 62) : divT a (2 ^ k) = (a / 2 ^ k, 0) := by
  have hp := two_pos k
  unfold divT
  rw [if_neg (by omega), Int.fdiv_eq_ediv_of_nonneg _ (by omega)]
  refine chk_in ?_
  have h1 := Int.ediv_mul_le a (b := 2 ^ k) (by omega)
  have h2 := Int.lt_ediv_add_one_mul_self a hp
  have h3 : (a / 2 ^ k).natAbs ≤ a.natAbs := Int.natAbs_ediv_le_natAbs a _
  by_cases h4 : 0 ≤ a
  · have := Int.ediv_nonneg h4 (b := 2 ^ k) (by omega)
    unfold Fit at *; omega
  · have h5 : a / 2 ^ k < 0 := Int.ediv_neg_of_neg_of_pos (by omega) hp
    unfold Fit at *; omega
theorem pow_fit {k : Nat} (hk : k ≤ 62) : Fit (2 ^ k) := by
  have h1 := two_pos k
  have h2 : (2 : Nat) ^ k ≤ 2 ^ 62 := Nat.pow_le_pow_right (by decide) hk
  have e : ((2 : Int) ^ k) = ((2 ^ k : Nat) : Int) := by rw [Int.natCast_pow]; rfl
  rw [show (2 : Nat) ^ 62 = 4611686018427387904 by decide] at h2
  unfold Fit; omega
set_option maxRecDepth 100000 in
theorem law_shifts (a z : Int) (ha : Fit a) (hz0 : 0 ≤ z) (hz1 : z ≤ 255) (w : World) (ht : Tab w) : Calls Tryd.prog 6 #[.int .i64 a, .int .u8 z] w (Says true w) := by
  have HA := Lib.hid ha
  have HT := Lib.hid ht
  obtain ⟨k, hk⟩ : ∃ k : Nat, z % 63 = (k : Int) := ⟨(z % 63).toNat, by omega⟩
  have hk1 : (k : Int) ≤ 62 := by omega
  have hk2 : k ≤ 62 := by omega
  have HB := Lib.hid (show Fit (k : Int) by unfold Fit; omega)
  have HK := Lib.hid (pow_fit hk2)
  have HW := Lib.hid (wrap_in (pow_fit hk2))
  have HN := Lib.hid (show ¬ ((k : Int) < 0 ∨ 63 < (k : Int)) by omega)
  have HR : Hid (rightT a k = (a / 2 ^ k, 0)) := Lib.hid (by unfold rightT; rw [if_neg (by omega), show (min (k : Int) 63).toNat = k by omega])
  have HD := Lib.hid (shift_div ha k hk2)
  by_cases hf : Fit (a * 2 ^ k)
  · have HP := Lib.hid hf
    have HL : Hid (leftT a k = (a * 2 ^ k, 0)) := Lib.hid (by unfold leftT; rw [if_neg (by omega), Int.toNat_natCast]; exact chk_in hf)
    have HR2 : Hid (rightT (a * 2 ^ k) k = (a, 0)) := Lib.hid (by unfold rightT; rw [if_neg (by omega), show (min (k : Int) 63).toNat = k by omega, Int.mul_ediv_cancel _ (by have := two_pos k; omega)])
    have HM : Hid (chk (a * 2 ^ k) = (a * 2 ^ k, 0)) := Lib.hid (chk_in hf)
    clear ha ht hf hk2
    go_enter Tryd.func6, Tryd.ntmps6
    go_wp2_with (first
      | (go_at_call 10
         refine (go_alive _ HT.out).mono ?_
         rintro e1 w1 ⟨rfl, hb1⟩
         have BEL := Lib.hid hb1
         clear hb1)
      | (go_at_call 15
         refine (go_Two _ _ _ (by first | exact HA.out | exact HP.out) (by first | exact HB.out | exact HK.out | exact wrap_fit _) _).mono ?_
         rintro e1 w1 ⟨rfl, hb1⟩
         first | rw [two_left, HL.out] | rw [two_right, HR.out] | rw [two_right, HR2.out] | rw [HW.out, two_div, HD.out] | rw [two_div, HD.out] | rw [HW.out, two_mul, HM.out] | rw [two_mul, HM.out]
         have BEL2 := Lib.hid (BEL.out.trans (hb1.mono BEL.out.size))
         clear BEL hb1
         have BEL := Lib.hid BEL2.out
         clear BEL2))
    go_ret
    exact ⟨rfl, BEL.out⟩
  · have HL : Hid (leftT a k = (0, 11)) := Lib.hid (by unfold leftT; rw [if_neg (by omega), Int.toNat_natCast]; exact chk_out hf)
    clear ha ht hf hk2
    go_enter Tryd.func6, Tryd.ntmps6
    go_wp2_with (first
      | (go_at_call 10
         refine (go_alive _ HT.out).mono ?_
         rintro e1 w1 ⟨rfl, hb1⟩
         have BEL := Lib.hid hb1
         clear hb1)
      | (go_at_call 15
         refine (go_Two _ _ _ (by first | exact HA.out) (by first | exact HB.out | exact HK.out | exact wrap_fit _) _).mono ?_
         rintro e1 w1 ⟨rfl, hb1⟩
         first | rw [two_left, HL.out] | rw [two_right, HR.out] | rw [HW.out, two_div, HD.out] | rw [two_div, HD.out]
         have BEL2 := Lib.hid (BEL.out.trans (hb1.mono BEL.out.size))
         clear BEL hb1
         have BEL := Lib.hid BEL2.out
         clear BEL2))
    go_ret
    exact ⟨rfl, BEL.out⟩
set_option maxRecDepth 100000 in
theorem law_reckons (op : ByteArray) (a b : Int) (ha : Fit a) (hb : Fit b) (w : World) (ht : Tab w) : Calls Tryd.prog 8 #[.string op, .int .i64 a, .int .i64 b] w (Says true w) := by
  have HA := Lib.hid ha
  have HB := Lib.hid hb
  have HT := Lib.hid ht
  obtain ⟨n, e, he⟩ : ∃ n e, twoT op a b = (n, e) := ⟨_, _, rfl⟩
  obtain ⟨x, g, hg⟩ : ∃ x g, oneT op a = (x, g) := ⟨_, _, rfl⟩
  have HE := Lib.hid he
  have HG := Lib.hid hg
  clear ha hb ht he hg
  go_enter Tryd.func8, Tryd.ntmps8
  go_wp2_with (first
    | (go_at_call 10
       refine (go_alive _ HT.out).mono ?_
       rintro e1 w1 ⟨rfl, hb1⟩
       have BEL := Lib.hid hb1
       clear hb1)
    | (go_at_call 15
       refine (go_Two _ _ _ HA.out HB.out _).mono ?_
       rintro e1 w1 ⟨rfl, hb1⟩
       rw [HE.out]
       have BEL2 := Lib.hid (BEL.out.trans (hb1.mono BEL.out.size))
       clear BEL hb1
       have BEL := Lib.hid BEL2.out
       clear BEL2)
    | (go_at_call 16
       refine (ref_Two _ _ _ HA.out HB.out _).mono ?_
       rintro e1 w1 ⟨rfl, hb1⟩
       rw [HE.out]
       have BEL2 := Lib.hid (BEL.out.trans (hb1.mono BEL.out.size))
       clear BEL hb1
       have BEL := Lib.hid BEL2.out
       clear BEL2)
    | (go_at_call 17
       refine (go_One _ _ HA.out _).mono ?_
       rintro e1 w1 ⟨rfl, hb1⟩
       rw [HG.out]
       have BEL2 := Lib.hid (BEL.out.trans (hb1.mono BEL.out.size))
       clear BEL hb1
       have BEL := Lib.hid BEL2.out
       clear BEL2)
    | (go_at_call 18
       refine (ref_One _ _ HA.out _).mono ?_
       rintro e1 w1 ⟨rfl, hb1⟩
       rw [HG.out]
       have BEL2 := Lib.hid (BEL.out.trans (hb1.mono BEL.out.size))
       clear BEL hb1
       have BEL := Lib.hid BEL2.out
       clear BEL2))
  go_ret
  exact ⟨rfl, BEL.out⟩
theorem of_wrap (r : Nat) (h : r < 2 ^ 64) : BitVec.ofInt 64 (wrap64 (r : Int)) = BitVec.ofNat 64 r := by
  apply BitVec.eq_of_toNat_eq
  rw [BitVec.toNat_ofInt, BitVec.toNat_ofNat, Nat.mod_eq_of_lt h, wrap_eq]
  rw [show ((2 ^ 64 : Nat) : Int) = 18446744073709551616 by decide]
  rw [show (2 : Nat) ^ 64 = 18446744073709551616 by decide] at h
  omega
theorem bits_and_eq (a b : Int) : bits .and .i64 a b = wrap64 ((BitVec.ofInt 64 a &&& BitVec.ofInt 64 b).toNat : Int) := by unfold bits; rw [wrap_eq, IntKind.wrap_i64]; rfl
theorem of_and (a b : Int) : BitVec.ofInt 64 (bits .and .i64 a b) = BitVec.ofInt 64 a &&& BitVec.ofInt 64 b := by
  rw [bits_and_eq, of_wrap _ (BitVec.isLt _), BitVec.ofNat_toNat, BitVec.setWidth_eq]
theorem bits_or_eq (a b : Int) : bits .or .i64 a b = wrap64 ((BitVec.ofInt 64 a ||| BitVec.ofInt 64 b).toNat : Int) := by unfold bits; rw [wrap_eq, IntKind.wrap_i64]; rfl
theorem of_or (a b : Int) : BitVec.ofInt 64 (bits .or .i64 a b) = BitVec.ofInt 64 a ||| BitVec.ofInt 64 b := by
  rw [bits_or_eq, of_wrap _ (BitVec.isLt _), BitVec.ofNat_toNat, BitVec.setWidth_eq]
theorem bits_xor_eq (a b : Int) : bits .xor .i64 a b = wrap64 ((BitVec.ofInt 64 a ^^^ BitVec.ofInt 64 b).toNat : Int) := by unfold bits; rw [wrap_eq, IntKind.wrap_i64]; rfl
theorem of_xor (a b : Int) : BitVec.ofInt 64 (bits .xor .i64 a b) = BitVec.ofInt 64 a ^^^ BitVec.ofInt 64 b := by
  rw [bits_xor_eq, of_wrap _ (BitVec.isLt _), BitVec.ofNat_toNat, BitVec.setWidth_eq]
theorem bits_join (a b : Int) : bits .or .i64 (bits .and .i64 a b) (bits .xor .i64 a b) = bits .or .i64 a b := by
  rw [bits_or_eq, bits_or_eq, of_and, of_xor]
  congr 3
  apply BitVec.eq_of_getLsbD_eq
  intro i hi
  simp only [BitVec.getLsbD_or, BitVec.getLsbD_and, BitVec.getLsbD_xor]
  cases (BitVec.ofInt 64 a).getLsbD i <;> cases (BitVec.ofInt 64 b).getLsbD i <;> rfl
theorem bits_part (a b : Int) : bits .and .i64 (bits .and .i64 a b) (bits .xor .i64 a b) = 0 := by
  rw [bits_and_eq, of_and, of_xor]
  have h : (BitVec.ofInt 64 a &&& BitVec.ofInt 64 b) &&& (BitVec.ofInt 64 a ^^^ BitVec.ofInt 64 b) = 0#64 := by
    apply BitVec.eq_of_getLsbD_eq
    intro i hi
    simp only [BitVec.getLsbD_and, BitVec.getLsbD_xor, BitVec.getLsbD_zero]
    cases (BitVec.ofInt 64 a).getLsbD i <;> cases (BitVec.ofInt 64 b).getLsbD i <;> rfl
  rw [h, show ((0#64).toNat : Int) = 0 from rfl]
  exact wrap_in (by decide)
set_option maxRecDepth 100000 in
theorem law_bits (a b : Int) (ha : Fit a) (hb : Fit b) (w : World) (ht : Tab w) : Calls Tryd.prog 9 #[.int .i64 a, .int .i64 b] w (Says true w) := by
  have HA := Lib.hid ha
  have HB := Lib.hid hb
  have HT := Lib.hid ht
  have hx : Fit (-1 - a) := by unfold Fit at *; omega
  have HX := Lib.hid hx
  have HA1 : Hid (oneT ⟨#[92]⟩ a = (-1 - a, 0)) := Lib.hid (by rw [one_turn, turn_eq ha])
  have HA2 : Hid (oneT ⟨#[92]⟩ (-1 - a) = (a, 0)) := Lib.hid (by rw [one_turn, turn_eq hx]; congr 1; omega)
  have hj : (bits .or .i64 (bits .and .i64 a b) (bits .xor .i64 a b) == bits .or .i64 a b) = true := by rw [bits_join]; simp
  have hp : (bits .and .i64 (bits .and .i64 a b) (bits .xor .i64 a b) == 0) = true := by rw [bits_part]; simp
  by_cases hf : Fit (-a)
  · have HC := Lib.hid (chk_in hf)
    obtain ⟨h1, h2⟩ := ha
    obtain ⟨x, hxx⟩ : ∃ x, x = -1 - a := ⟨_, rfl⟩
    have h3 : (-a - 1 == x) = true := by simp; omega
    have h4 : -9223372036854775808 ≤ -a - 1 := by omega
    have h5 : -a - 1 ≤ 9223372036854775807 := by omega
    rw [← hxx] at HX HA1 HA2
    clear hx hb ht hf hxx
    go_enter Tryd.func9, Tryd.ntmps9
    go_wp2_with (first
      | (go_at_call 10
         refine (go_alive _ HT.out).mono ?_
         rintro e1 w1 ⟨rfl, hb1⟩
         have BEL := Lib.hid hb1
         clear hb1)
      | (go_at_call 15
         refine (go_Two _ _ _ HA.out HB.out _).mono ?_
         rintro e1 w1 ⟨rfl, hb1⟩
         first | rw [two_and] | rw [two_or] | rw [two_xor]
         have BEL2 := Lib.hid (BEL.out.trans (hb1.mono BEL.out.size))
         clear BEL hb1
         have BEL := Lib.hid BEL2.out
         clear BEL2)
      | (go_at_call 17
         refine (go_One _ _ (by first | exact HA.out | exact HX.out) _).mono ?_
         rintro e1 w1 ⟨rfl, hb1⟩
         first | rw [HA1.out] | rw [HA2.out] | rw [one_neg, HC.out]
         have BEL2 := Lib.hid (BEL.out.trans (hb1.mono BEL.out.size))
         clear BEL hb1
         have BEL := Lib.hid BEL2.out
         clear BEL2))
    go_ret
    exact ⟨rfl, BEL.out⟩
  · have HC := Lib.hid (chk_out hf)
    obtain ⟨x, hxx⟩ : ∃ x, x = -1 - a := ⟨_, rfl⟩
    rw [← hxx] at HX HA1 HA2
    clear ha hx hb ht hf hxx
    go_enter Tryd.func9, Tryd.ntmps9
    go_wp2_with (first
      | (go_at_call 10
         refine (go_alive _ HT.out).mono ?_
         rintro e1 w1 ⟨rfl, hb1⟩
         have BEL := Lib.hid hb1
         clear hb1)
      | (go_at_call 15
         refine (go_Two _ _ _ HA.out HB.out _).mono ?_
         rintro e1 w1 ⟨rfl, hb1⟩
         first | rw [two_and] | rw [two_or] | rw [two_xor]
         have BEL2 := Lib.hid (BEL.out.trans (hb1.mono BEL.out.size))
         clear BEL hb1
         have BEL := Lib.hid BEL2.out
         clear BEL2)
      | (go_at_call 17
         refine (go_One _ _ (by first | exact HA.out | exact HX.out) _).mono ?_
         rintro e1 w1 ⟨rfl, hb1⟩
         first | rw [HA1.out] | rw [HA2.out] | rw [one_neg, HC.out]
         have BEL2 := Lib.hid (BEL.out.trans (hb1.mono BEL.out.size))
         clear BEL hb1
         have BEL := Lib.hid BEL2.out
         clear BEL2))
    go_ret
    exact ⟨rfl, BEL.out⟩
theorem pow_less {a : Int} {n : Nat} (h : Fit (a ^ (n + 1))) : Fit (a ^ n) := by
  by_cases h2 : 2 ≤ a.natAbs
  · exact Classical.byContradiction fun e => pow_out h2 e (Nat.le_succ n) h
  · rcases (by omega : a = 0 ∨ a = 1 ∨ a = -1) with rfl | rfl | rfl
    · cases n with
      | zero => rw [Int.pow_zero]; decide
      | succ n => rw [Int.zero_pow (by omega)]; decide
    · rw [Int.one_pow]; decide
    · rw [neg_one_pow]; split <;> decide
set_option maxRecDepth 100000 in
set_option maxHeartbeats 4000000 in
theorem law_powers (a z : Int) (ha : Fit a) (hz0 : 0 ≤ z) (hz1 : z ≤ 255) (w : World) (ht : Tab w) : Calls Tryd.prog 7 #[.int .i64 a, .int .u8 z] w (Says true w) := by
  have HA := Lib.hid ha
  have HT := Lib.hid ht
  obtain ⟨n, hn⟩ : ∃ n : Nat, z % 70 = (n : Int) := ⟨(z % 70).toNat, by omega⟩
  have hn1 : (n : Int) ≤ 69 := by omega
  have HB := Lib.hid (show Fit ((n : Int) + 1) by unfold Fit; omega)
  have HB2 := Lib.hid (show Fit (n : Int) by unfold Fit; omega)
  have HX : Hid (powT a ((n : Int) + 1) = chk (a ^ (n + 1))) := Lib.hid (by rw [pow_by (by omega), show ((n : Int) + 1).toNat = n + 1 by omega])
  have HY : Hid (powT a (n : Int) = chk (a ^ n)) := Lib.hid (by rw [pow_by (by omega), Int.toNat_natCast])
  have HMM : Hid ((min a ((n : Int) + 1) = a ∧ max a ((n : Int) + 1) = (n : Int) + 1 ∧ a ≤ (n : Int) + 1) ∨ (min a ((n : Int) + 1) = (n : Int) + 1 ∧ max a ((n : Int) + 1) = a ∧ (n : Int) + 1 < a)) := Lib.hid (by omega)
  have h5 : (wrap64 (((n : Int) + 1) + a) == wrap64 (a + ((n : Int) + 1))) = true := by rw [Int.add_comm]; simp
  have h6 : (wrap64 (((n : Int) + 1) + a) != wrap64 (a + ((n : Int) + 1))) = false := by rw [Int.add_comm]; simp
  have hnn : (((n : Int) + 1) - 1) = (n : Int) := by omega
  by_cases hf : Fit (a ^ (n + 1))
  · have hf0 := pow_less hf
    obtain ⟨y, hy⟩ : ∃ y, y = a ^ n := ⟨_, rfl⟩
    obtain ⟨x, hx⟩ : ∃ x, x = a ^ (n + 1) := ⟨_, rfl⟩
    have hyx : y * a = x := by rw [hy, hx, Int.pow_succ]
    have HX2 : Hid (powT a ((n : Int) + 1) = (x, 0)) := Lib.hid (by rw [HX.out, hx]; exact chk_in hf)
    have HY2 : Hid (powT a (n : Int) = (y, 0)) := Lib.hid (by rw [HY.out, hy]; exact chk_in hf0)
    have HFY := Lib.hid (show Fit y by rw [hy]; exact hf0)
    have HZ : Hid (chk (y * a) = (x, 0)) := Lib.hid (by rw [hyx, hx]; exact chk_in hf)
    clear ha ht hf hf0 hy hx hyx HX HY
    rcases (by omega : a < (n : Int) + 1 ∨ a = (n : Int) + 1 ∨ (n : Int) + 1 < a) with m0 | m0 | m0
    · have M1 : Hid (min a ((n : Int) + 1) = a) := Lib.hid (by omega)
      have M2 : Hid (max a ((n : Int) + 1) = (n : Int) + 1) := Lib.hid (by omega)
      have b1 : ((n : Int) + 1 != a) = true := by simp; omega
      go_enter Tryd.func7, Tryd.ntmps7
      go_wp2_with (first
        | (go_at_call 10
           refine (go_alive _ HT.out).mono ?_
           rintro e1 w1 ⟨rfl, hb1⟩
           have BEL := Lib.hid hb1
           clear hb1)
        | (go_at_call 15
           refine (go_Two _ _ _ (by first | exact HA.out | exact HFY.out | decide) (by first | exact HB.out | exact HB2.out | exact HA.out) _).mono ?_
           rintro e1 w1 ⟨rfl, hb1⟩
           first | rw [two_pow, HX2.out] | rw [two_pow2, HY2.out] | rw [two_mul, HZ.out] | rw [two_min, M1.out] | rw [two_max, M2.out]
           have BEL2 := Lib.hid (BEL.out.trans (hb1.mono BEL.out.size))
           clear BEL hb1
           have BEL := Lib.hid BEL2.out
           clear BEL2))
      go_ret
      exact ⟨rfl, BEL.out⟩
    · have M1 : Hid (min a ((n : Int) + 1) = a) := Lib.hid (by omega)
      have M2 : Hid (max a ((n : Int) + 1) = (n : Int) + 1) := Lib.hid (by omega)
      have b1 : ((n : Int) + 1 != a) = false := by simp; omega
      have b2 : a ≤ (n : Int) + 1 := by omega
      have M0 := Lib.hid m0
      clear m0
      go_enter Tryd.func7, Tryd.ntmps7
      go_wp2_with (first
        | (go_at_call 10
           refine (go_alive _ HT.out).mono ?_
           rintro e1 w1 ⟨rfl, hb1⟩
           have BEL := Lib.hid hb1
           clear hb1)
        | (go_at_call 15
           refine (go_Two _ _ _ (by first | exact HA.out | exact HFY.out | decide) (by first | exact HB.out | exact HB2.out | exact HA.out) _).mono ?_
           rintro e1 w1 ⟨rfl, hb1⟩
           first | rw [two_pow, HX2.out] | rw [two_pow2, HY2.out] | rw [two_mul, HZ.out] | rw [two_min, M1.out] | rw [two_max, M2.out]
           have BEL2 := Lib.hid (BEL.out.trans (hb1.mono BEL.out.size))
           clear BEL hb1
           have BEL := Lib.hid BEL2.out
           clear BEL2))
      go_ret
      exact ⟨rfl, BEL.out⟩
    · have M1 : Hid (min a ((n : Int) + 1) = (n : Int) + 1) := Lib.hid (by omega)
      have M2 : Hid (max a ((n : Int) + 1) = a) := Lib.hid (by omega)
      have b1 : ((n : Int) + 1 != a) = true := by simp; omega
      go_enter Tryd.func7, Tryd.ntmps7
      go_wp2_with (first
        | (go_at_call 10
           refine (go_alive _ HT.out).mono ?_
           rintro e1 w1 ⟨rfl, hb1⟩
           have BEL := Lib.hid hb1
           clear hb1)
        | (go_at_call 15
           refine (go_Two _ _ _ (by first | exact HA.out | exact HFY.out | decide) (by first | exact HB.out | exact HB2.out | exact HA.out) _).mono ?_
           rintro e1 w1 ⟨rfl, hb1⟩
           first | rw [two_pow, HX2.out] | rw [two_pow2, HY2.out] | rw [two_mul, HZ.out] | rw [two_min, M1.out] | rw [two_max, M2.out]
           have BEL2 := Lib.hid (BEL.out.trans (hb1.mono BEL.out.size))
           clear BEL hb1
           have BEL := Lib.hid BEL2.out
           clear BEL2))
      go_ret
      exact ⟨rfl, BEL.out⟩
  · have HX2 : Hid (powT a ((n : Int) + 1) = (0, 11)) := Lib.hid (by rw [HX.out]; exact chk_out hf)
    by_cases hf0 : Fit (a ^ n)
    · obtain ⟨y, hy⟩ : ∃ y, y = a ^ n := ⟨_, rfl⟩
      have HY2 : Hid (powT a (n : Int) = (y, 0)) := Lib.hid (by rw [HY.out, hy]; exact chk_in hf0)
      have HFY := Lib.hid (show Fit y by rw [hy]; exact hf0)
      have HZ : Hid (chk (y * a) = (0, 11)) := Lib.hid (by rw [hy, ← Int.pow_succ]; exact chk_out hf)
      clear ha ht hf hf0 hy HX HY
      rcases (by omega : a < (n : Int) + 1 ∨ a = (n : Int) + 1 ∨ (n : Int) + 1 < a) with m0 | m0 | m0
      · have M1 : Hid (min a ((n : Int) + 1) = a) := Lib.hid (by omega)
        have M2 : Hid (max a ((n : Int) + 1) = (n : Int) + 1) := Lib.hid (by omega)
        have b1 : ((n : Int) + 1 != a) = true := by simp; omega
        go_enter Tryd.func7, Tryd.ntmps7
        go_wp2_with (first
          | (go_at_call 10
             refine (go_alive _ HT.out).mono ?_
             rintro e1 w1 ⟨rfl, hb1⟩
             have BEL := Lib.hid hb1
             clear hb1)
          | (go_at_call 15
             refine (go_Two _ _ _ (by first | exact HA.out | exact HFY.out | decide) (by first | exact HB.out | exact HB2.out | exact HA.out) _).mono ?_
             rintro e1 w1 ⟨rfl, hb1⟩
             first | rw [two_pow, HX2.out] | rw [two_pow2, HY2.out] | rw [two_mul, HZ.out] | rw [two_min, M1.out] | rw [two_max, M2.out]
             have BEL2 := Lib.hid (BEL.out.trans (hb1.mono BEL.out.size))
             clear BEL hb1
             have BEL := Lib.hid BEL2.out
             clear BEL2))
        go_ret
        exact ⟨rfl, BEL.out⟩
      · have M1 : Hid (min a ((n : Int) + 1) = a) := Lib.hid (by omega)
        have M2 : Hid (max a ((n : Int) + 1) = (n : Int) + 1) := Lib.hid (by omega)
        have b1 : ((n : Int) + 1 != a) = false := by simp; omega
        have b2 : a ≤ (n : Int) + 1 := by omega
        have M0 := Lib.hid m0
        clear m0
        go_enter Tryd.func7, Tryd.ntmps7
        go_wp2_with (first
          | (go_at_call 10
             refine (go_alive _ HT.out).mono ?_
             rintro e1 w1 ⟨rfl, hb1⟩
             have BEL := Lib.hid hb1
             clear hb1)
          | (go_at_call 15
             refine (go_Two _ _ _ (by first | exact HA.out | exact HFY.out | decide) (by first | exact HB.out | exact HB2.out | exact HA.out) _).mono ?_
             rintro e1 w1 ⟨rfl, hb1⟩
             first | rw [two_pow, HX2.out] | rw [two_pow2, HY2.out] | rw [two_mul, HZ.out] | rw [two_min, M1.out] | rw [two_max, M2.out]
             have BEL2 := Lib.hid (BEL.out.trans (hb1.mono BEL.out.size))
             clear BEL hb1
             have BEL := Lib.hid BEL2.out
             clear BEL2))
        go_ret
        exact ⟨rfl, BEL.out⟩
      · have M1 : Hid (min a ((n : Int) + 1) = (n : Int) + 1) := Lib.hid (by omega)
        have M2 : Hid (max a ((n : Int) + 1) = a) := Lib.hid (by omega)
        have b1 : ((n : Int) + 1 != a) = true := by simp; omega
        go_enter Tryd.func7, Tryd.ntmps7
        go_wp2_with (first
          | (go_at_call 10
             refine (go_alive _ HT.out).mono ?_
             rintro e1 w1 ⟨rfl, hb1⟩
             have BEL := Lib.hid hb1
             clear hb1)
          | (go_at_call 15
             refine (go_Two _ _ _ (by first | exact HA.out | exact HFY.out | decide) (by first | exact HB.out | exact HB2.out | exact HA.out) _).mono ?_
             rintro e1 w1 ⟨rfl, hb1⟩
             first | rw [two_pow, HX2.out] | rw [two_pow2, HY2.out] | rw [two_mul, HZ.out] | rw [two_min, M1.out] | rw [two_max, M2.out]
             have BEL2 := Lib.hid (BEL.out.trans (hb1.mono BEL.out.size))
             clear BEL hb1
             have BEL := Lib.hid BEL2.out
             clear BEL2))
        go_ret
        exact ⟨rfl, BEL.out⟩
    · have HY2 : Hid (powT a (n : Int) = (0, 11)) := Lib.hid (by rw [HY.out]; exact chk_out hf0)
      have HZ : Hid (chk (0 * a) = (0, 0)) := Lib.hid (by rw [Int.zero_mul]; decide)
      clear ha ht hf hf0 HX HY
      rcases (by omega : a < (n : Int) + 1 ∨ a = (n : Int) + 1 ∨ (n : Int) + 1 < a) with m0 | m0 | m0
      · have M1 : Hid (min a ((n : Int) + 1) = a) := Lib.hid (by omega)
        have M2 : Hid (max a ((n : Int) + 1) = (n : Int) + 1) := Lib.hid (by omega)
        have b1 : ((n : Int) + 1 != a) = true := by simp; omega
        go_enter Tryd.func7, Tryd.ntmps7
        go_wp2_with (first
          | (go_at_call 10
             refine (go_alive _ HT.out).mono ?_
             rintro e1 w1 ⟨rfl, hb1⟩
             have BEL := Lib.hid hb1
             clear hb1)
          | (go_at_call 15
             refine (go_Two _ _ _ (by first | exact HA.out | decide) (by first | exact HB.out | exact HB2.out | exact HA.out) _).mono ?_
             rintro e1 w1 ⟨rfl, hb1⟩
             first | rw [two_pow, HX2.out] | rw [two_pow2, HY2.out] | rw [two_mul, HZ.out] | rw [two_mul, Int.zero_mul] | rw [two_min, M1.out] | rw [two_max, M2.out]
             have BEL2 := Lib.hid (BEL.out.trans (hb1.mono BEL.out.size))
             clear BEL hb1
             have BEL := Lib.hid BEL2.out
             clear BEL2))
        go_ret
        exact ⟨rfl, BEL.out⟩
      · have M1 : Hid (min a ((n : Int) + 1) = a) := Lib.hid (by omega)
        have M2 : Hid (max a ((n : Int) + 1) = (n : Int) + 1) := Lib.hid (by omega)
        have b1 : ((n : Int) + 1 != a) = false := by simp; omega
        have b2 : a ≤ (n : Int) + 1 := by omega
        have M0 := Lib.hid m0
        clear m0
        go_enter Tryd.func7, Tryd.ntmps7
        go_wp2_with (first
          | (go_at_call 10
             refine (go_alive _ HT.out).mono ?_
             rintro e1 w1 ⟨rfl, hb1⟩
             have BEL := Lib.hid hb1
             clear hb1)
          | (go_at_call 15
             refine (go_Two _ _ _ (by first | exact HA.out | decide) (by first | exact HB.out | exact HB2.out | exact HA.out) _).mono ?_
             rintro e1 w1 ⟨rfl, hb1⟩
             first | rw [two_pow, HX2.out] | rw [two_pow2, HY2.out] | rw [two_mul, HZ.out] | rw [two_mul, Int.zero_mul] | rw [two_min, M1.out] | rw [two_max, M2.out]
             have BEL2 := Lib.hid (BEL.out.trans (hb1.mono BEL.out.size))
             clear BEL hb1
             have BEL := Lib.hid BEL2.out
             clear BEL2))
        go_ret
        exact ⟨rfl, BEL.out⟩
      · have M1 : Hid (min a ((n : Int) + 1) = (n : Int) + 1) := Lib.hid (by omega)
        have M2 : Hid (max a ((n : Int) + 1) = a) := Lib.hid (by omega)
        have b1 : ((n : Int) + 1 != a) = true := by simp; omega
        go_enter Tryd.func7, Tryd.ntmps7
        go_wp2_with (first
          | (go_at_call 10
             refine (go_alive _ HT.out).mono ?_
             rintro e1 w1 ⟨rfl, hb1⟩
             have BEL := Lib.hid hb1
             clear hb1)
          | (go_at_call 15
             refine (go_Two _ _ _ (by first | exact HA.out | decide) (by first | exact HB.out | exact HB2.out | exact HA.out) _).mono ?_
             rintro e1 w1 ⟨rfl, hb1⟩
             first | rw [two_pow, HX2.out] | rw [two_pow2, HY2.out] | rw [two_mul, HZ.out] | rw [two_mul, Int.zero_mul] | rw [two_min, M1.out] | rw [two_max, M2.out]
             have BEL2 := Lib.hid (BEL.out.trans (hb1.mono BEL.out.size))
             clear BEL hb1
             have BEL := Lib.hid BEL2.out
             clear BEL2))
        go_ret
        exact ⟨rfl, BEL.out⟩
end Go.Proofs.YtdhljihikbofbaaDoor.Num
