
/-
  Layer 1: shifts and powers: plain facts, and the pair's methods left, right, power, walked over the program.
-/
import Derived.Test.YtibjcfbilkkmkaaNuB
namespace Go.Proofs.Ytibjcfbilkkmkaa.Num
open Go Go.RowKit Go.Proofs.Ytibjcfbilkkmkaa.Reg
set_option linter.unusedVariables false

theorem two_pos (k : Nat) : (0 : Int) < 2 ^ k := Int.pow_pos (by decide)
theorem two_split {k n : Nat} (h : k ≤ n) : (2 : Int) ^ n = 2 ^ k * 2 ^ (n - k) := by rw [← Int.pow_add]; congr 1; omega
/-- what was moved up goes back just if it fits -/
theorem shl_back {a : Int} {k : Nat} (ha : Fit a) (hk : k ≤ 63) : (wrap64 (a * 2 ^ k)) / 2 ^ k = a ↔ Fit (a * 2 ^ k) := by
  constructor
  · intro h
    have hp := two_pos k
    have he := wrap_eq (a * 2 ^ k)
    have hm : ∃ m : Int, wrap64 (a * 2 ^ k) = a * 2 ^ k + m * 2 ^ 64 := ⟨-((a * 2 ^ k + 9223372036854775808) / 18446744073709551616), by
      have e : (2 : Int) ^ 64 = 18446744073709551616 := by decide
      rw [e, he]; generalize a * 2 ^ k = p; omega⟩
    obtain ⟨m, hm⟩ := hm
    have hs := two_split (show k ≤ 64 by omega)
    rw [hm, hs] at h
    have h2 : a * 2 ^ k + m * (2 ^ k * 2 ^ (64 - k)) = (a + m * 2 ^ (64 - k)) * 2 ^ k := by
      rw [Int.add_mul, Int.mul_assoc m, Int.mul_comm (2 ^ (64 - k))]
    rw [h2, Int.mul_ediv_cancel _ (by omega)] at h
    have h3 : m * 2 ^ (64 - k) = 0 := by omega
    have h4 : m = 0 := (Int.mul_eq_zero.1 h3).resolve_right (by have := two_pos (64 - k); omega)
    subst h4
    have : wrap64 (a * 2 ^ k) = a * 2 ^ k := by rw [hm]; simp
    rw [← this]; exact wrap_fit _
  · intro h
    rw [wrap_in h]; exact Int.mul_ediv_cancel _ (by have := two_pos k; omega)
theorem pow_natAbs (a : Int) (k : Nat) : (a ^ k).natAbs = a.natAbs ^ k := Int.natAbs_pow a k
theorem pow_out {a : Int} {k b : Nat} (h2 : 2 ≤ a.natAbs) (h : ¬ Fit (a ^ k)) (hb : k ≤ b) : ¬ Fit (a ^ b) := by
  by_cases e : k = b
  · subst e; exact h
  · have h1 : 9223372036854775808 ≤ (a ^ k).natAbs := by unfold Fit at h; omega
    have h3 : (a ^ b).natAbs = (a ^ k).natAbs * a.natAbs ^ (b - k) := by rw [pow_natAbs, pow_natAbs, ← Nat.pow_add]; congr 1; omega
    have h4 : 2 ≤ a.natAbs ^ (b - k) := Nat.le_trans h2 (Nat.le_self_pow (by omega) _)
    have h5 : 9223372036854775808 * 2 ≤ (a ^ k).natAbs * a.natAbs ^ (b - k) := Nat.mul_le_mul h1 h4
    unfold Fit; omega
theorem pow_far {a : Int} {b : Nat} (h2 : 2 ≤ a.natAbs) (hb : 63 < b) : ¬ Fit (a ^ b) := by
  refine pow_out h2 (k := 64) ?_ (by omega)
  have h3 : 2 ^ 64 ≤ a.natAbs ^ 64 := Nat.pow_le_pow_left h2 64
  rw [← pow_natAbs] at h3
  have e : (2 : Nat) ^ 64 = 18446744073709551616 := by decide
  rw [e] at h3
  unfold Fit; generalize a ^ 64 = p at *; omega
theorem and_one (b : Int) : bits .and .i64 b 1 = b % 2 := by
  have h : ∀ x : BitVec 64, (x &&& 1#64).toNat = x.toNat % 2 := fun x => by
    rw [BitVec.toNat_and]; exact Nat.and_one_is_mod _
  unfold bits
  show IntKind.i64.wrap ((BitVec.ofInt 64 b &&& BitVec.ofInt 64 1).toNat) = _
  have e1 : BitVec.ofInt 64 1 = 1#64 := by decide
  rw [e1, h, BitVec.toNat_ofInt]
  rw [IntWalk.i64_in _ (by omega)]
  omega
theorem left_bad {a b : Int} (h : b < 0 ∨ 63 < b) : leftT a b = (0, 11) := if_pos h
theorem left_in {a b : Int} (h : ¬ (b < 0 ∨ 63 < b)) (hf : Fit (a * 2 ^ b.toNat)) : leftT a b = (wrap64 (a * 2 ^ b.toNat), 0) := by unfold leftT; rw [if_neg h, chk_in hf, wrap_in hf]
theorem left_out {a b : Int} (h : ¬ (b < 0 ∨ 63 < b)) (hf : ¬ Fit (a * 2 ^ b.toNat)) : leftT a b = (0, 11) := by unfold leftT; rw [if_neg h, chk_out hf]
theorem pow_one (b : Int) : powT 1 b = (1, 0) := by
  unfold powT; split
  · rw [Int.one_pow]; exact chk_in (by decide)
  · rfl
theorem pow_none (a : Int) : powT a 0 = (1, 0) := by unfold powT; rw [if_pos (by decide)]; rw [Int.toNat_zero, Int.pow_zero]; exact chk_in (by decide)
theorem neg_one_pow (k : Nat) : ((-1 : Int)) ^ k = if k % 2 = 0 then 1 else -1 := by
  induction k with
  | zero => rfl
  | succ k ih => rw [Int.pow_succ, ih]; split <;> split <;> omega
theorem pow_minus (b : Int) : powT (-1) b = (if b % 2 = 0 then 1 else -1, 0) := by
  unfold powT; split
  · rename_i h
    rw [neg_one_pow]
    have : (b.toNat % 2 = 0) = (b % 2 = 0) := by apply propext; omega
    simp only [this]
    split <;> exact chk_in (by decide)
  · rfl
theorem pow_zero_neg {b : Int} (h : b < 0) : powT 0 b = (0, 10) := by unfold powT; rw [if_neg (by omega)]; rfl
theorem pow_zero {b : Int} (h : 0 < b) : powT 0 b = (0, 0) := by
  unfold powT; rw [if_pos (by omega), Int.zero_pow (by omega)]; exact chk_in (by decide)
theorem pow_far' {a b : Int} (h2 : 2 ≤ a.natAbs) (h : b < 0 ∨ 63 < b) : powT a b = (0, 11) := by
  unfold powT
  by_cases hb : 0 ≤ b
  · rw [if_pos hb]; exact chk_out (pow_far h2 (by omega))
  · rw [if_neg hb, if_neg (by omega), if_neg (by omega), if_neg (by omega)]
theorem pow_by {a b : Int} (h : 0 ≤ b) : powT a b = chk (a ^ b.toNat) := if_pos h

set_option maxRecDepth 100000 in
theorem pair_left (a b : Int) (ha : Fit a) (w : World) : Calls Try.prog 103 #[.agg #[.int .i64 a, .int .i64 b]] w (NPost (leftT a b) w) := by
  by_cases hb : b < 0 ∨ 63 < b
  · have HR := Lib.hid (left_bad (a := a) hb)
    by_cases h0 : b < 0
    · clear hb
      go_enter Try.func103, Try.ntmps103
      go_wp2
      go_ret2
      exact npost HR.out (box_b _ _)
    · have h1 : 63 < b := hb.resolve_left h0
      clear hb
      go_enter Try.func103, Try.ntmps103
      go_wp2
      go_ret2
      exact npost HR.out (box_b _ _)
  · have h0 : 0 ≤ b := by omega
    have h1 : b ≤ 63 := by omega
    by_cases hf : Fit (a * 2 ^ b.toNat)
    · have hm : ((wrap64 (a * 2 ^ b.toNat)) / 2 ^ b.toNat != a) = false := by simpa using (shl_back ha (by omega)).2 hf
      have HR := Lib.hid (left_in hb hf)
      clear hf ha hb
      go_enter Try.func103, Try.ntmps103
      go_wp2
      go_ret2
      exact npost HR.out (box_b _ _)
    · have hm : ((wrap64 (a * 2 ^ b.toNat)) / 2 ^ b.toNat != a) = true := by
        have := mt (shl_back ha (show b.toNat ≤ 63 by omega)).1 hf
        simpa using this
      have HR := Lib.hid (left_out hb hf)
      clear hf ha hb
      go_enter Try.func103, Try.ntmps103
      go_wp2
      go_ret2
      exact npost HR.out (box_b _ _)
set_option maxRecDepth 100000 in
theorem pair_right (a b : Int) (w : World) : Calls Try.prog 104 #[.agg #[.int .i64 a, .int .i64 b]] w (NPost (rightT a b) w) := by
  by_cases h0 : b < 0
  · have HR := Lib.hid (show rightT a b = (0, 11) from if_pos h0)
    go_enter Try.func104, Try.ntmps104
    go_wp2
    go_ret2
    exact npost HR.out (box_b _ _)
  · by_cases h1 : 63 < b
    · have HR := Lib.hid (show rightT a b = (a / 9223372036854775808, 0) by unfold rightT; rw [if_neg h0, show (min b 63).toNat = 63 by omega]; rfl)
      go_enter Try.func104, Try.ntmps104
      go_wp2
      all_goals first
        | omega
        | (go_ret2; exact npost HR.out (box_b _ _))
    · have HR := Lib.hid (show rightT a b = (a / 2 ^ b.toNat, 0) by unfold rightT; rw [if_neg h0, show (min b 63).toNat = b.toNat by omega])
      go_enter Try.func104, Try.ntmps104
      go_wp2
      all_goals first
        | omega
        | (go_ret2; exact npost HR.out (box_b _ _))

theorem row2' {w : World} {g : Nat} {y0 y1 : Value} {T : TypeId} {fr : Nat × Nat} (h : w.heap[g]? = some (.cells #[y0, y1] T fr)) :
    w.cell? ⟨g, 0, none⟩ = some y0 ∧ w.cell? ⟨g, 1, none⟩ = some y1 :=
  ⟨cell_of_row w g 0 _ _ _ h, cell_of_row w g 1 _ _ _ h⟩
/-- the power's loop: so many times multiplied -/
structure PowRel (w : World) (a b : Int) (r i : Value) (wr : World) : Prop where
  at_ : ∃ k : Nat, k ≤ b.toNat ∧ i = .int .i64 k ∧ r = .int .i64 (a ^ k) ∧ Fit (a ^ k)
  box : wr.heap[w.heap.size]? = some (.cells #[.int .i64 a, .int .i64 b] 131 (0, 0))
  bel : Below w.heap.size w wr
  big : w.heap.size < wr.heap.size
theorem PowRel.start (w : World) (a b : Int) : PowRel w a b (.int .i64 1) (.int .i64 0) (w.alloc (.cells #[.int .i64 a, .int .i64 b] 131 (0, 0))) :=
  ⟨⟨0, Nat.zero_le _, rfl, by rw [Int.pow_zero], by rw [Int.pow_zero]; decide⟩, heap_alloc_new w _, box_b _ _, by simp⟩
theorem PowRel.on {w wr w1 : World} {a b : Int} {r i r' i' : Value} (h : PowRel w a b r i wr) (hb : Below wr.heap.size wr w1) (hk : ∃ k : Nat, k ≤ b.toNat ∧ i' = .int .i64 k ∧ r' = .int .i64 (a ^ k) ∧ Fit (a ^ k)) : PowRel w a b r' i' w1 :=
  ⟨hk, (hb.block _ h.big).trans h.box, h.bel.trans (hb.mono h.bel.size), Nat.lt_of_lt_of_le h.big hb.size⟩
set_option maxRecDepth 100000 in
theorem pair_power (a b : Int) (ha : Fit a) (hb : Fit b) (w : World) : Calls Try.prog 105 #[.agg #[.int .i64 a, .int .i64 b]] w (NPost (powT a b) w) := by
  have HA := Lib.hid ha
  by_cases h1 : a = 1
  · subst h1
    have HR := Lib.hid (pow_one b)
    go_enter Try.func105, Try.ntmps105
    go_wp2
    go_ret2
    exact npost HR.out (box_b _ _)
  have a1 : (a == 1) = false := by simpa using h1
  by_cases h2 : b = 0
  · subst h2
    have HR := Lib.hid (pow_none a)
    clear h1
    go_enter Try.func105, Try.ntmps105
    go_wp2
    go_ret2
    exact npost HR.out (box_b _ _)
  have b0 : (b == 0) = false := by simpa using h2
  by_cases h3 : a = -1
  · subst h3
    have HR := Lib.hid (pow_minus b)
    clear h1
    by_cases h4 : b % 2 = 0
    · have hx : (bits .and .i64 b 1 == 0) = true := by rw [and_one]; simpa using h4
      have HX := Lib.hid h4
      clear h4
      go_enter Try.func105, Try.ntmps105
      go_wp2
      go_ret2
      exact npost (by rw [HR.out, if_pos HX.out]) (box_b _ _)
    · have hx : (bits .and .i64 b 1 == 0) = false := by rw [and_one]; simpa using h4
      have HX := Lib.hid h4
      clear h4
      go_enter Try.func105, Try.ntmps105
      go_wp2
      go_ret2
      exact npost (by rw [HR.out, if_neg HX.out]) (box_b _ _)
  have a2 : (a == -1) = false := by simpa using h3
  by_cases h4 : a = 0
  · subst h4
    clear h1 h3
    by_cases h5 : b < 0
    · have HR := Lib.hid (pow_zero_neg h5)
      go_enter Try.func105, Try.ntmps105
      go_wp2
      go_ret2
      exact npost HR.out (box_b _ _)
    · have HR := Lib.hid (pow_zero (b := b) (by omega))
      go_enter Try.func105, Try.ntmps105
      go_wp2
      go_ret2
      exact npost HR.out (box_b _ _)
  have a0 : (a == 0) = false := by simpa using h4
  have hn : 2 ≤ a.natAbs := by omega
  have HN := Lib.hid hn
  clear h1 h3 h4 hn
  by_cases h5 : b < 0
  · have HR := Lib.hid (pow_far' HN.out (.inl h5))
    go_enter Try.func105, Try.ntmps105
    go_wp2
    go_ret2
    exact npost HR.out (box_b _ _)
  by_cases h6 : 63 < b
  · have HR := Lib.hid (pow_far' HN.out (.inr h6))
    go_enter Try.func105, Try.ntmps105
    go_wp2
    go_ret2
    exact npost HR.out (box_b _ _)
  have HR := Lib.hid (pow_by (a := a) (b := b) (by omega))
  obtain ⟨hb0, hb1⟩ := hb
  clear ha h2
  have H0 := Lib.hid (PowRel.start w a b)
  go_enter Try.func105, Try.ntmps105
  go_wp2
  generalize w.alloc (.cells #[.int .i64 a, .int .i64 b] 131 (0, 0)) = W at *
  go_loopw [4, 47] (fun r i wr => PowRel w a b r i wr) (fun _ i _ => b.toNat - (intOf i).toNat)
  case atStart => exact H0.out
  case round =>
    have HREL := Lib.hid hrel
    obtain ⟨k, hk, rfl, rfl, hf⟩ := hrel.at_
    have HF := Lib.hid hf
    obtain ⟨c0, c1⟩ := row2' hrel.box
    clear hrel hf H0
    by_cases hlt : (k : Int) < b
    · by_cases hf2 : Fit (a ^ k * a)
      · have HC := Lib.hid (chk_in hf2)
        have HF2 := Lib.hid hf2
        clear hf2
        go_wp2_with (go_at_call 93; refine (pair_mul _ _ HF.out HA.out _).mono ?_; rintro e1 w1 ⟨rfl, hb1⟩; have HB1 := Lib.hid hb1; clear hb1; rw [HC.out])
        go_roundw
        case rel => exact HREL.out.on HB1.out ⟨k + 1, by omega, by go_num, by rw [Int.pow_succ], by rw [Int.pow_succ]; exact HF2.out⟩
        case measure => simp [intOf]; omega
      · have HC := Lib.hid (chk_out hf2)
        have HF2 := Lib.hid hf2
        clear hf2
        go_wp2_with (go_at_call 93; refine (pair_mul _ _ HF.out HA.out _).mono ?_; rintro e1 w1 ⟨rfl, hb1⟩; have HB1 := Lib.hid hb1; clear hb1; rw [HC.out])
        go_ret2
        exact npost (by rw [HR.out]; exact chk_out (pow_out HN.out (k := k + 1) (by rw [Int.pow_succ]; exact HF2.out) (by omega))) (HREL.out.bel.trans (HB1.out.mono HREL.out.bel.size))
    · have hkb : b.toNat = k := by omega
      have HKB := Lib.hid hkb
      clear hkb
      go_wp2
      go_ret2
      exact npost (by rw [HR.out, HKB.out]; exact chk_in HF.out) HREL.out.bel
end Go.Proofs.Ytibjcfbilkkmkaa.Num
