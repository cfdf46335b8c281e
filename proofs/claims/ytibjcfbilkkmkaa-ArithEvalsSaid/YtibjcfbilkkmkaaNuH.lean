
/-
  Layer 1's reference: One, walked over the program.
-/
import Derived.Test.YtibjcfbilkkmkaaNuG
namespace Go.Proofs.Ytibjcfbilkkmkaa.Num
open Go Go.RowKit Go.Proofs.Ytibjcfbilkkmkaa.Reg
set_option linter.unusedVariables false
set_option linter.unusedSimpArgs false

theorem turn_eq {a : Int} (ha : Fit a) : bits .xor .i64 (-1) a = -1 - a := by
  have hr : bits .xor .i64 (-1) a = wrap64 ((BitVec.ofInt 64 (-1) ^^^ BitVec.ofInt 64 a).toNat : Int) := by unfold bits; rw [wrap_eq, IntKind.wrap_i64]; rfl
  have e1 : BitVec.ofInt 64 (-1) = BitVec.allOnes 64 := by decide
  have e2 : (BitVec.allOnes 64 ^^^ BitVec.ofInt 64 a) = ~~~ (BitVec.ofInt 64 a) := by rw [BitVec.allOnes_xor]
  rw [hr, e1, e2, BitVec.toNat_not, BitVec.toNat_ofInt, wrap_eq]
  rw [show ((2 ^ 64 : Nat) : Int) = 18446744073709551616 by decide, show (2 : Nat) ^ 64 = 18446744073709551616 by decide]
  unfold Fit at ha
  omega
theorem two_sub (a b : Int) : twoT ⟨#[45]⟩ a b = chk (a - b) := by
  unfold twoT; rw [if_neg (by decide), if_pos rfl]
set_option maxRecDepth 100000 in
theorem ref_One_neg (a : Int) (ha : Fit a) (w : World) : Calls Try.prog 61 #[.string ⟨#[45]⟩, .int .i64 a] w (NPost (chk (-a)) w) := by
  have HA := Lib.hid ha
  clear ha
  go_enter Try.func61, Try.ntmps61
  go_wp2_with (go_at_call 60; refine (ref_Two _ _ _ (by decide) HA.out _).mono ?_; rintro e1 w1 ⟨rfl, hb1⟩; have HB1 := Lib.hid hb1; clear hb1; rw [two_sub])
  go_ret2
  exact npost rfl HB1.out
set_option maxRecDepth 100000 in
theorem ref_One_same (a : Int) (w : World) : Calls Try.prog 61 #[.string ⟨#[43]⟩, .int .i64 a] w (NPost (a, 0) w) := by
  go_enter Try.func61, Try.ntmps61
  go_wp2
  go_ret2
  exact npost' rfl
set_option maxRecDepth 100000 in
theorem ref_One_abs (a : Int) (ha : Fit a) (w : World) : Calls Try.prog 61 #[.string ⟨#[97, 98, 115]⟩, .int .i64 a] w (NPost (chk (a.natAbs : Int)) w) := by
  have HA := Lib.hid ha
  obtain ⟨ha0, ha1⟩ := ha
  by_cases h : a < 0
  · have HN := Lib.hid (show (a.natAbs : Int) = 0 - a by omega)
    go_enter Try.func61, Try.ntmps61
    go_wp2_with (go_at_call 60; refine (ref_Two _ _ _ (by decide) HA.out _).mono ?_; rintro e1 w1 ⟨rfl, hb1⟩; have HB1 := Lib.hid hb1; clear hb1; rw [two_sub])
    go_ret2
    exact npost (by rw [HN.out, Int.zero_sub]) HB1.out
  · have HN := Lib.hid (show (a.natAbs : Int) = a by omega)
    go_enter Try.func61, Try.ntmps61
    go_wp2
    go_ret2
    exact npost' (by rw [HN.out]; exact chk_in HA.out)
set_option maxRecDepth 100000 in
theorem ref_One_sign (a : Int) (w : World) : Calls Try.prog 61 #[.string ⟨#[115, 105, 103, 110]⟩, .int .i64 a] w (NPost (a.sign, 0) w) := by
  rcases Int.lt_trichotomy a 0 with h | h | h
  · have E := Lib.hid (Int.sign_eq_neg_one_of_neg h)
    go_enter Try.func61, Try.ntmps61
    go_wp2
    go_ret2
    exact npost' (by rw [E.out])
  · subst h
    go_enter Try.func61, Try.ntmps61
    go_wp2
    go_ret2
    exact npost' rfl
  · have E := Lib.hid (Int.sign_eq_one_of_pos h)
    go_enter Try.func61, Try.ntmps61
    go_wp2
    go_ret2
    exact npost' (by rw [E.out])
set_option maxRecDepth 100000 in
theorem ref_One_turn (a : Int) (ha : Fit a) (w : World) : Calls Try.prog 61 #[.string ⟨#[92]⟩, .int .i64 a] w (NPost (bits .xor .i64 (-1) a, 0) w) := by
  have HT := Lib.hid (turn_eq ha)
  obtain ⟨ha0, ha1⟩ := ha
  go_enter Try.func61, Try.ntmps61
  go_wp2
  go_ret2
  exact npost' (by rw [HT.out])
set_option maxRecDepth 100000 in
theorem ref_One_no (op : ByteArray) (a : Int) (h0 : (op.toList == [45]) = false) (h1 : (op.toList == [43]) = false) (h2 : (op.toList == [97, 98, 115]) = false) (h3 : (op.toList == [115, 105, 103, 110]) = false) (h4 : (op.toList == [92]) = false) (w : World) :
    Calls Try.prog 61 #[.string op, .int .i64 a] w (NPost (0, 8) w) := by
  go_enter Try.func61, Try.ntmps61
  go_wp2
  go_ret2
  exact npost' rfl
theorem ref_One (op : ByteArray) (a : Int) (ha : Fit a) (w : World) : Calls Try.prog 61 #[.string op, .int .i64 a] w (NPost (oneT op a) w) := by
  unfold oneT
  by_cases h0 : op = ⟨#[45]⟩
  · rw [if_pos h0]; subst h0; exact ref_One_neg a ha w
  rw [if_neg h0]
  by_cases h1 : op = ⟨#[43]⟩
  · rw [if_pos h1]; subst h1; exact ref_One_same a w
  rw [if_neg h1]
  by_cases h2 : op = ⟨#[97, 98, 115]⟩
  · rw [if_pos h2]; subst h2; exact ref_One_abs a ha w
  rw [if_neg h2]
  by_cases h3 : op = ⟨#[115, 105, 103, 110]⟩
  · rw [if_pos h3]; subst h3; exact ref_One_sign a w
  rw [if_neg h3]
  by_cases h4 : op = ⟨#[92]⟩
  · rw [if_pos h4]; subst h4; exact ref_One_turn a ha w
  rw [if_neg h4]
  exact ref_One_no op a (bytes_no h0) (bytes_no h1) (bytes_no h2) (bytes_no h3) (bytes_no h4) w
end Go.Proofs.Ytibjcfbilkkmkaa.Num
