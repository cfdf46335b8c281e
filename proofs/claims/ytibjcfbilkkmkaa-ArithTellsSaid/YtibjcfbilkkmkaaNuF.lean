
/-
  Layer 1's reference: bits, walked over the program (printed by gen_nuf.py).
-/
import Derived.Test.YtibjcfbilkkmkaaNuE
namespace Go.Proofs.Ytibjcfbilkkmkaa.Num
open Go Go.RowKit Go.Proofs.Ytibjcfbilkkmkaa.Reg
set_option linter.unusedVariables false
set_option linter.unusedSimpArgs false

/-- a bit of a number -/
def bt (a : Int) (i : Nat) : Int := a / 2 ^ i % 2
theorem bt_lo (a : Int) (i : Nat) : 0 ≤ bt a i := by unfold bt; omega
theorem bt_hi (a : Int) (i : Nat) : bt a i ≤ 1 := by unfold bt; omega
theorem bt_bit (a : Int) {i : Nat} (hi : i < 64) : (BitVec.ofInt 64 a).getLsbD i = decide (bt a i = 1) := by
  rw [BitVec.getLsbD, Nat.testBit_eq_decide_div_mod_eq, BitVec.toNat_ofInt]
  have hp := two_pos i
  have hs := two_split (show i ≤ 64 by omega)
  have he : (2 : Int) ^ (64 - i) = 2 * 2 ^ (63 - i) := by rw [show 64 - i = (63 - i) + 1 by omega, Int.pow_succ]; omega
  have hm := Int.emod_add_mul_ediv a (2 ^ 64)
  have hn : 0 ≤ a % 2 ^ 64 := Int.emod_nonneg _ (by decide)
  have h1 : a / 2 ^ i = a % 2 ^ 64 / 2 ^ i + 2 ^ (64 - i) * (a / 2 ^ 64) := by
    conv => lhs; rw [← hm]
    rw [show (2 : Int) ^ 64 * (a / 2 ^ 64) = 2 ^ i * (2 ^ (64 - i) * (a / 2 ^ 64)) by rw [hs, Int.mul_assoc], Int.add_mul_ediv_left _ _ (by omega)]
  have h2 : bt a i = a % 2 ^ 64 / 2 ^ i % 2 := by
    unfold bt
    rw [h1, he, Int.mul_assoc]
    omega
  rw [h2]
  have h3 : ((a % 2 ^ 64).toNat : Int) = a % 2 ^ 64 := Int.toNat_of_nonneg hn
  have h4 : (((a % 2 ^ 64).toNat / 2 ^ i % 2 : Nat) : Int) = a % 2 ^ 64 / 2 ^ i % 2 := by
    rw [Int.natCast_emod, Int.natCast_ediv, h3]; simp
  have h5 : ((2 ^ 64 : Nat) : Int) = 2 ^ 64 := by decide
  rw [h5, decide_eq_decide]
  omega
theorem or_step {n : Nat} {k : Nat} (h : n < 2 ^ k) (hk : k < 64) : bits .or .u64 (n : Int) (2 ^ k) = ((n + 2 ^ k : Nat) : Int) := by
  have hk2 : 2 ^ k < 2 ^ 64 := Nat.pow_lt_pow_right (by decide) hk
  unfold bits
  show IntKind.u64.wrap ((BitVec.ofInt 64 (n : Int) ||| BitVec.ofInt 64 (2 ^ k)).toNat) = _
  have e1 : (BitVec.ofInt 64 (n : Int)).toNat = n := by rw [BitVec.toNat_ofInt]; rw [show ((2 ^ 64 : Nat) : Int) = 18446744073709551616 by decide]; rw [show (2 : Nat) ^ 64 = 18446744073709551616 by decide] at hk2; omega
  have e2 : (BitVec.ofInt 64 ((2 : Int) ^ k)).toNat = 2 ^ k := by
    have e : ((2 : Int) ^ k) = ((2 ^ k : Nat) : Int) := by rw [Int.natCast_pow]; rfl
    rw [BitVec.toNat_ofInt, e]; rw [show ((2 ^ 64 : Nat) : Int) = 18446744073709551616 by decide]; rw [show (2 : Nat) ^ 64 = 18446744073709551616 by decide] at hk2; omega
  rw [BitVec.toNat_or, e1, e2]
  have h3 : n ||| 2 ^ k = n + 2 ^ k := by
    have := Nat.two_pow_add_eq_or_of_lt h 1
    rw [Nat.mul_one] at this
    rw [Nat.or_comm, ← this]; omega
  rw [h3]
  refine IntWalk.u64_in _ ?_
  have h6 : k + 1 ≤ 64 := hk
  have h7 : 2 ^ (k + 1) ≤ 2 ^ 64 := Nat.pow_le_pow_right (by decide) h6
  rw [Nat.pow_succ] at h7
  rw [show (2 : Nat) ^ 64 = 18446744073709551616 by decide] at h7
  omega
theorem low_step (r k : Nat) : r % 2 ^ (k + 1) = if r.testBit k then r % 2 ^ k + 2 ^ k else r % 2 ^ k := by
  rw [Nat.mod_pow_succ, Nat.testBit_eq_decide_div_mod_eq]
  have : r / 2 ^ k % 2 = 0 ∨ r / 2 ^ k % 2 = 1 := by omega
  rcases this with h | h <;> simp [h]
theorem shl_one {k : Nat} (h : k < 64) : IntKind.u64.wrap (2 ^ k) = 2 ^ k := by
  refine IntWalk.u64_in _ ?_
  have hk2 : 2 ^ k < 2 ^ 64 := Nat.pow_lt_pow_right (by decide) h
  rw [show (2 : Nat) ^ 64 = 18446744073709551616 by decide] at hk2
  have e : ((2 : Int) ^ k) = ((2 ^ k : Nat) : Int) := by rw [Int.natCast_pow]; rfl
  rw [e]
  generalize 2 ^ k = m at *
  omega
theorem ret_int {k : IntKind} {a b : Int} (h : a = b) : Ending.returned (.int k a) = .returned (.int k b) := by rw [h]
set_option maxRecDepth 100000 in
theorem ref_bit (a : Int) (i : Nat) (hi : i < 64) (w : World) : Calls Try.prog 106 #[.int .i64 a, .int .i64 i] w (fun e w' => e = .returned (.int .i64 (bt a i)) ∧ w = w') := by
  have HB := Lib.hid (and_one (a / 2 ^ i))
  go_enter Try.func106, Try.ntmps106
  go_wp2
  go_ret
  exact ⟨ret_int (by unfold bt; exact HB.out), rfl⟩
structure BtRel (w : World) (r : Nat) (n i : Value) (wr : World) : Prop where
  at_ : ∃ k m : Nat, k ≤ 64 ∧ i = .int .i64 k ∧ n = .int .u64 (m : Int) ∧ Hid (m = r % 2 ^ k)
  same : w = wr
theorem BtRel.start (w : World) (r : Nat) : BtRel w r (.int .u64 0) (.int .i64 0) w := ⟨⟨0, 0, by omega, rfl, rfl, Lib.hid (by simp [Nat.mod_one])⟩, rfl⟩
theorem and_cond (a b : Int) {k : Nat} (hk : k < 64) : (BitVec.ofInt 64 a &&& BitVec.ofInt 64 b).toNat.testBit k = (bt a k + bt b k == 2) := by
  rw [← BitVec.getLsbD, BitVec.getLsbD_and, bt_bit a hk, bt_bit b hk]
  have h1 := bt_lo a k
  have h2 := bt_hi a k
  have h3 := bt_lo b k
  have h4 := bt_hi b k
  generalize bt a k = x at *
  generalize bt b k = y at *
  rcases (by omega : x = 0 ∨ x = 1) with rfl | rfl <;> rcases (by omega : y = 0 ∨ y = 1) with rfl | rfl <;> decide
set_option maxRecDepth 100000 in
theorem ref_bits_and (a b : Int) (w : World) : Calls Try.prog 78 #[.string ⟨#[47, 92]⟩, .int .i64 a, .int .i64 b] w (fun e w' => e = .returned (.int .i64 (bits .and .i64 a b)) ∧ w = w') := by
  have hr : bits .and .i64 a b = wrap64 ((BitVec.ofInt 64 a &&& BitVec.ofInt 64 b).toNat : Int) := by unfold bits; rw [wrap_eq, IntKind.wrap_i64]; rfl
  have hlt := (BitVec.ofInt 64 a &&& BitVec.ofInt 64 b).isLt
  have hcond := fun k (hk : k < 64) => and_cond a b hk
  generalize (BitVec.ofInt 64 a &&& BitVec.ofInt 64 b).toNat = r at *
  have HR := Lib.hid hr
  have HLT := Lib.hid hlt
  have HC := Lib.hid hcond
  have HST := Lib.hid (BtRel.start w r)
  clear hr hlt hcond
  go_enter Try.func78, Try.ntmps78
  go_wp2
  go_loopw [7, 8] (fun n i wr => BtRel w r n i wr) (fun _ i _ => 64 - (intOf i).toNat)
  case atStart => exact HST.out
  case round =>
    obtain ⟨⟨k, m, hk, rfl, rfl, HM⟩, rfl⟩ := hrel
    clear HST
    by_cases hlt : k < 64
    · have hst := low_step r k
      have hor := or_step (n := m) (by rw [HM.out]; exact Nat.mod_lt _ (Nat.two_pow_pos k)) hlt
      have HOR := Lib.hid hor
      have HSH := Lib.hid (shl_one hlt)
      have x0 := bt_lo a k
      have x1 := bt_hi a k
      have y0 := bt_lo b k
      have y1 := bt_hi b k
      have hs : True := trivial
      by_cases ht : r.testBit k = true
      · rw [if_pos ht] at hst
        have HS := Lib.hid hst
        rw [HC.out k hlt] at ht
        clear hst hor
        go_wp2_with (go_at_call 106; refine (ref_bit _ k hlt _).mono ?_; rintro e1 w1 ⟨rfl, rfl⟩)
        all_goals first
          | omega
          | (exfalso; simp at ht; omega)
          | (go_roundw
             case rel => exact ⟨⟨k + 1, m + 2 ^ k, by omega, by go_num, by rw [HSH.out, HOR.out], Lib.hid (by rw [HS.out, HM.out])⟩, rfl⟩
             case measure => simp [intOf]; omega)
      · rw [if_neg ht] at hst
        have HS := Lib.hid hst
        have ht' : r.testBit k = false := by simpa using ht
        rw [HC.out k hlt] at ht'
        clear hst hor ht
        go_wp2_with (go_at_call 106; refine (ref_bit _ k hlt _).mono ?_; rintro e1 w1 ⟨rfl, rfl⟩)
        all_goals first
          | omega
          | (exfalso; simp at ht'; omega)
          | (go_roundw
             case rel => exact ⟨⟨k + 1, m, by omega, by go_num, rfl, Lib.hid (by rw [HS.out, HM.out])⟩, rfl⟩
             case measure => simp [intOf]; omega)
    · have h64 : k = 64 := by omega
      subst h64
      have HM2 := Lib.hid (HM.out.trans (Nat.mod_eq_of_lt HLT.out))
      clear hlt
      go_wp2
      all_goals go_ret
      all_goals exact ⟨ret_int (by rw [HR.out, HM2.out]), rfl⟩
theorem or_cond (a b : Int) {k : Nat} (hk : k < 64) : (BitVec.ofInt 64 a ||| BitVec.ofInt 64 b).toNat.testBit k = (decide (0 < bt a k + bt b k)) := by
  rw [← BitVec.getLsbD, BitVec.getLsbD_or, bt_bit a hk, bt_bit b hk]
  have h1 := bt_lo a k
  have h2 := bt_hi a k
  have h3 := bt_lo b k
  have h4 := bt_hi b k
  generalize bt a k = x at *
  generalize bt b k = y at *
  rcases (by omega : x = 0 ∨ x = 1) with rfl | rfl <;> rcases (by omega : y = 0 ∨ y = 1) with rfl | rfl <;> decide
set_option maxRecDepth 100000 in
theorem ref_bits_or (a b : Int) (w : World) : Calls Try.prog 78 #[.string ⟨#[92, 47]⟩, .int .i64 a, .int .i64 b] w (fun e w' => e = .returned (.int .i64 (bits .or .i64 a b)) ∧ w = w') := by
  have hr : bits .or .i64 a b = wrap64 ((BitVec.ofInt 64 a ||| BitVec.ofInt 64 b).toNat : Int) := by unfold bits; rw [wrap_eq, IntKind.wrap_i64]; rfl
  have hlt := (BitVec.ofInt 64 a ||| BitVec.ofInt 64 b).isLt
  have hcond := fun k (hk : k < 64) => or_cond a b hk
  generalize (BitVec.ofInt 64 a ||| BitVec.ofInt 64 b).toNat = r at *
  have HR := Lib.hid hr
  have HLT := Lib.hid hlt
  have HC := Lib.hid hcond
  have HST := Lib.hid (BtRel.start w r)
  clear hr hlt hcond
  go_enter Try.func78, Try.ntmps78
  go_wp2
  go_loopw [7, 8] (fun n i wr => BtRel w r n i wr) (fun _ i _ => 64 - (intOf i).toNat)
  case atStart => exact HST.out
  case round =>
    obtain ⟨⟨k, m, hk, rfl, rfl, HM⟩, rfl⟩ := hrel
    clear HST
    by_cases hlt : k < 64
    · have hst := low_step r k
      have hor := or_step (n := m) (by rw [HM.out]; exact Nat.mod_lt _ (Nat.two_pow_pos k)) hlt
      have HOR := Lib.hid hor
      have HSH := Lib.hid (shl_one hlt)
      have x0 := bt_lo a k
      have x1 := bt_hi a k
      have y0 := bt_lo b k
      have y1 := bt_hi b k
      have hs : True := trivial
      by_cases ht : r.testBit k = true
      · rw [if_pos ht] at hst
        have HS := Lib.hid hst
        rw [HC.out k hlt] at ht
        clear hst hor
        go_wp2_with (go_at_call 106; refine (ref_bit _ k hlt _).mono ?_; rintro e1 w1 ⟨rfl, rfl⟩)
        all_goals first
          | omega
          | (exfalso; simp at ht; omega)
          | (go_roundw
             case rel => exact ⟨⟨k + 1, m + 2 ^ k, by omega, by go_num, by rw [HSH.out, HOR.out], Lib.hid (by rw [HS.out, HM.out])⟩, rfl⟩
             case measure => simp [intOf]; omega)
      · rw [if_neg ht] at hst
        have HS := Lib.hid hst
        have ht' : r.testBit k = false := by simpa using ht
        rw [HC.out k hlt] at ht'
        clear hst hor ht
        go_wp2_with (go_at_call 106; refine (ref_bit _ k hlt _).mono ?_; rintro e1 w1 ⟨rfl, rfl⟩)
        all_goals first
          | omega
          | (exfalso; simp at ht'; omega)
          | (go_roundw
             case rel => exact ⟨⟨k + 1, m, by omega, by go_num, rfl, Lib.hid (by rw [HS.out, HM.out])⟩, rfl⟩
             case measure => simp [intOf]; omega)
    · have h64 : k = 64 := by omega
      subst h64
      have HM2 := Lib.hid (HM.out.trans (Nat.mod_eq_of_lt HLT.out))
      clear hlt
      go_wp2
      all_goals go_ret
      all_goals exact ⟨ret_int (by rw [HR.out, HM2.out]), rfl⟩
theorem xor_cond (a b : Int) {k : Nat} (hk : k < 64) : (BitVec.ofInt 64 a ^^^ BitVec.ofInt 64 b).toNat.testBit k = (bt a k + bt b k == 1) := by
  rw [← BitVec.getLsbD, BitVec.getLsbD_xor, bt_bit a hk, bt_bit b hk]
  have h1 := bt_lo a k
  have h2 := bt_hi a k
  have h3 := bt_lo b k
  have h4 := bt_hi b k
  generalize bt a k = x at *
  generalize bt b k = y at *
  rcases (by omega : x = 0 ∨ x = 1) with rfl | rfl <;> rcases (by omega : y = 0 ∨ y = 1) with rfl | rfl <;> decide
set_option maxRecDepth 100000 in
theorem ref_bits_xor (a b : Int) (w : World) : Calls Try.prog 78 #[.string ⟨#[120, 111, 114]⟩, .int .i64 a, .int .i64 b] w (fun e w' => e = .returned (.int .i64 (bits .xor .i64 a b)) ∧ w = w') := by
  have hr : bits .xor .i64 a b = wrap64 ((BitVec.ofInt 64 a ^^^ BitVec.ofInt 64 b).toNat : Int) := by unfold bits; rw [wrap_eq, IntKind.wrap_i64]; rfl
  have hlt := (BitVec.ofInt 64 a ^^^ BitVec.ofInt 64 b).isLt
  have hcond := fun k (hk : k < 64) => xor_cond a b hk
  generalize (BitVec.ofInt 64 a ^^^ BitVec.ofInt 64 b).toNat = r at *
  have HR := Lib.hid hr
  have HLT := Lib.hid hlt
  have HC := Lib.hid hcond
  have HST := Lib.hid (BtRel.start w r)
  clear hr hlt hcond
  go_enter Try.func78, Try.ntmps78
  go_wp2
  go_loopw [7, 8] (fun n i wr => BtRel w r n i wr) (fun _ i _ => 64 - (intOf i).toNat)
  case atStart => exact HST.out
  case round =>
    obtain ⟨⟨k, m, hk, rfl, rfl, HM⟩, rfl⟩ := hrel
    clear HST
    by_cases hlt : k < 64
    · have hst := low_step r k
      have hor := or_step (n := m) (by rw [HM.out]; exact Nat.mod_lt _ (Nat.two_pow_pos k)) hlt
      have HOR := Lib.hid hor
      have HSH := Lib.hid (shl_one hlt)
      have x0 := bt_lo a k
      have x1 := bt_hi a k
      have y0 := bt_lo b k
      have y1 := bt_hi b k
      have hs : True := trivial
      by_cases ht : r.testBit k = true
      · rw [if_pos ht] at hst
        have HS := Lib.hid hst
        rw [HC.out k hlt] at ht
        clear hst hor
        go_wp2_with (go_at_call 106; refine (ref_bit _ k hlt _).mono ?_; rintro e1 w1 ⟨rfl, rfl⟩)
        all_goals first
          | omega
          | (exfalso; simp at ht; omega)
          | (go_roundw
             case rel => exact ⟨⟨k + 1, m + 2 ^ k, by omega, by go_num, by rw [HSH.out, HOR.out], Lib.hid (by rw [HS.out, HM.out])⟩, rfl⟩
             case measure => simp [intOf]; omega)
      · rw [if_neg ht] at hst
        have HS := Lib.hid hst
        have ht' : r.testBit k = false := by simpa using ht
        rw [HC.out k hlt] at ht'
        clear hst hor ht
        go_wp2_with (go_at_call 106; refine (ref_bit _ k hlt _).mono ?_; rintro e1 w1 ⟨rfl, rfl⟩)
        all_goals first
          | omega
          | (exfalso; simp at ht'; omega)
          | (go_roundw
             case rel => exact ⟨⟨k + 1, m, by omega, by go_num, rfl, Lib.hid (by rw [HS.out, HM.out])⟩, rfl⟩
             case measure => simp [intOf]; omega)
    · have h64 : k = 64 := by omega
      subst h64
      have HM2 := Lib.hid (HM.out.trans (Nat.mod_eq_of_lt HLT.out))
      clear hlt
      go_wp2
      all_goals go_ret
      all_goals exact ⟨ret_int (by rw [HR.out, HM2.out]), rfl⟩
end Go.Proofs.Ytibjcfbilkkmkaa.Num
