
/-
  Layer 1: what an operator makes of whole numbers (plain), and the pair's and the whole number's methods, walked over the program.
-/
import Derived.Test.YtkhchmgdaolojaaDoorReg
import Derived.Test.YtkhchmgdaolojaaDoorBas
import Derived.Test.YtkhchmgdaolojaaDoorProg
import Derived.IntWalk
import Derived.Lib.Hide
import Derived.Deep.QuietTactic
import Derived.BigQuiet
namespace Go.Proofs.YtkhchmgdaolojaaDoor.Num
open Go Go.RowKit Go.Proofs.YtkhchmgdaolojaaDoor.Reg
set_option linter.unusedVariables false

/-- the number fits 64 bits -/
def Fit (a : Int) : Prop := -9223372036854775808 ≤ a ∧ a ≤ 9223372036854775807
instance (a : Int) : Decidable (Fit a) := by unfold Fit; exact inferInstance
/-- a number, or that it is too great -/
def chk (r : Int) : Int × Int := if Fit r then (r, 0) else (0, 11)
theorem chk_in {r : Int} (h : Fit r) : chk r = (r, 0) := if_pos h
theorem chk_out {r : Int} (h : ¬ Fit r) : chk r = (0, 11) := if_neg h
theorem wrap_eq (r : Int) : wrap64 r = (r + 9223372036854775808) % 18446744073709551616 - 9223372036854775808 := by unfold wrap64; rfl
theorem wrap_in {r : Int} (h : Fit r) : wrap64 r = r := by rw [wrap_eq]; unfold Fit at h; omega
theorem wrap_fit (r : Int) : Fit (wrap64 r) := by have := wrap_eq r; unfold Fit; omega
theorem draw_b {w u : World} {n : Nat} (h : Below n w u) (k : Nat) : Below n w (u.drewN k) := ⟨h.os, by simpa using h.tape, h.output, by simpa using h.size, fun b hb => by simpa using h.block b hb⟩
def NPost (r : Int × Int) (w : World) (e : Ending) (w' : World) : Prop := e = .returned (.tuple #[.int .i64 r.1, .int .i64 r.2]) ∧ Below w.heap.size w w'
theorem npost {r : Int × Int} {v x : Int} {w w' : World} (h : r = (v, x)) (hb : Below w.heap.size w w') : NPost r w (.returned (.tuple #[.int .i64 v, .int .i64 x])) w' := by subst h; exact ⟨rfl, hb⟩
theorem box_b (w : World) (o : Obj) : Below w.heap.size w (w.alloc o) := (Below.refl _ _).alloc (Nat.le_refl _) _

theorem natAbs_tdiv (a b : Int) : (a.tdiv b).natAbs = a.natAbs / b.natAbs := Int.natAbs_tdiv a b
theorem tdiv_fit {a b : Int} (ha : Fit a) (hb : b ≠ -1) : Fit (a.tdiv b) := by
  have h := natAbs_tdiv a b
  unfold Fit at *
  by_cases h0 : b = 0
  · subst h0; simp
  · have h2 : b = 1 ∨ 2 ≤ b.natAbs := by omega
    rcases h2 with rfl | h2
    · simpa using ha
    · have : a.natAbs / b.natAbs ≤ a.natAbs / 2 := Nat.div_le_div_left h2 (by decide)
      omega
theorem mul_tdiv {a b : Int} (h : b ≠ 0) : (a * b).tdiv b = a := Int.mul_tdiv_cancel a h
/-- the product goes back through the quotient just if it fits -/
theorem mul_back {a b : Int} (ha : Fit a) (hb : Fit b) (h0 : b ≠ 0) (h1 : b ≠ -1) : (wrap64 (a * b)).tdiv b = a ↔ Fit (a * b) := by
  constructor
  · intro h
    have hf := wrap_fit (a * b)
    have hm := Int.mul_tdiv_add_tmod (wrap64 (a * b)) b
    have hlt := Int.natAbs_tmod (wrap64 (a * b)) b
    have hlt2 := Nat.mod_lt (wrap64 (a * b)).natAbs (y := b.natAbs) (by omega)
    rw [h] at hm
    have he := wrap_eq (a * b)
    have hc : b * a = a * b := Int.mul_comm b a
    unfold Fit at *
    generalize a * b = p at *
    generalize wrap64 p = q at *
    omega
  · intro h
    rw [wrap_in h]; exact mul_tdiv h0

def quotT (a b : Int) : Int × Int := if b = 0 then (0, 10) else chk (a.tdiv b)
def remT (a b : Int) : Int × Int := if b = 0 then (0, 10) else (a.tmod b, 0)
def divT (a b : Int) : Int × Int := if b = 0 then (0, 10) else chk (a.fdiv b)
def modT (a b : Int) : Int × Int := if b = 0 then (0, 10) else (a.fmod b, 0)
def leftT (a b : Int) : Int × Int := if b < 0 ∨ 63 < b then (0, 11) else chk (a * 2 ^ b.toNat)
def rightT (a b : Int) : Int × Int := if b < 0 then (0, 11) else (a / 2 ^ (min b 63).toNat, 0)
def powT (a b : Int) : Int × Int := if 0 ≤ b then chk (a ^ b.toNat) else if a = 0 then (0, 10) else if a = 1 then (1, 0) else if a = -1 then (if b % 2 = 0 then 1 else -1, 0) else (0, 11)
theorem quot_no (a : Int) : quotT a 0 = (0, 10) := if_pos rfl
theorem quot_one (a : Int) : quotT a (-1) = chk (-a) := by
  unfold quotT; rw [if_neg (by decide)]; simp [Int.tdiv_neg]
theorem quot_by {a b : Int} (ha : Fit a) (h0 : b ≠ 0) (h1 : b ≠ -1) : quotT a b = (wrap64 (a.tdiv b), 0) := by
  unfold quotT; rw [if_neg h0, wrap_in (tdiv_fit ha h1), chk_in (tdiv_fit ha h1)]
theorem rem_no (a : Int) : remT a 0 = (0, 10) := if_pos rfl
theorem rem_one (a : Int) : remT a (-1) = (0, 0) := by
  unfold remT; rw [if_neg (by decide)]; simp [Int.tmod_neg]
theorem rem_by {a b : Int} (h0 : b ≠ 0) : remT a b = (a.tmod b, 0) := if_neg h0
/-- the rest's sign is not the divisor's -/
def Apart (r b : Int) : Prop := r ≠ 0 ∧ ¬ (r < 0 ↔ b < 0)
theorem tmod_sign {a b : Int} : (0 ≤ a → 0 ≤ a.tmod b) ∧ (a ≤ 0 → a.tmod b ≤ 0) :=
  ⟨fun h => Int.tmod_nonneg b h, fun h => by have := Int.tmod_nonneg b (a := -a) (by omega); rw [Int.neg_tmod] at this; omega⟩
theorem fdiv_far {a b : Int} (h0 : b ≠ 0) (h : Apart (a.tmod b) b) : a.fdiv b = a.tdiv b - 1 := by
  obtain ⟨h1, h2⟩ := h
  have hs := tmod_sign (a := a) (b := b)
  have hd : ¬ b ∣ a := fun e => h1 (Int.dvd_iff_tmod_eq_zero.1 e)
  rw [Int.fdiv_eq_tdiv, if_neg hd]
  by_cases ha : 0 ≤ a
  · rw [if_pos ha, if_neg (by have := hs.1 ha; omega)]
  · have := hs.2 (by omega); rw [if_neg ha, if_pos (by omega), Int.sign_eq_one_of_pos (by omega)]
theorem fdiv_near {a b : Int} (h0 : b ≠ 0) (h : ¬ Apart (a.tmod b) b) : a.fdiv b = a.tdiv b := by
  have hs := tmod_sign (a := a) (b := b)
  rw [Int.fdiv_eq_tdiv]
  by_cases hd : b ∣ a
  · rw [if_pos hd]; omega
  · have h1 : a.tmod b ≠ 0 := fun e => hd (Int.dvd_iff_tmod_eq_zero.2 e)
    have h2 : a.tmod b < 0 ↔ b < 0 := Classical.byContradiction fun e => h ⟨h1, e⟩
    rw [if_neg hd]
    by_cases ha : 0 ≤ a
    · rw [if_pos ha, if_pos (by have := hs.1 ha; omega)]; omega
    · rw [if_neg ha, if_neg (by have := hs.2 (by omega); omega), Int.sign_eq_neg_one_of_neg (by have := hs.2 (by omega); omega)]; omega
theorem fmod_far {a b : Int} (h0 : b ≠ 0) (h : Apart (a.tmod b) b) : a.fmod b = a.tmod b + b := by
  have h1 := Int.mul_tdiv_add_tmod a b
  have h2 := Int.mul_fdiv_add_fmod a b
  rw [fdiv_far h0 h, Int.mul_sub] at h2
  omega
theorem fmod_near {a b : Int} (h0 : b ≠ 0) (h : ¬ Apart (a.tmod b) b) : a.fmod b = a.tmod b := by
  have h1 := Int.mul_tdiv_add_tmod a b
  have h2 := Int.mul_fdiv_add_fmod a b
  rw [fdiv_near h0 h] at h2
  omega
theorem div_no (a : Int) : divT a 0 = (0, 10) := if_pos rfl
theorem div_one (a : Int) : divT a (-1) = chk (-a) := by
  unfold divT; rw [if_neg (by decide)]; simp [Int.fdiv_neg]
theorem tmod_lt {a b : Int} (h0 : b ≠ 0) : (a.tmod b).natAbs < b.natAbs := by
  rw [Int.natAbs_tmod]; exact Nat.mod_lt _ (by omega)
/-- a rest that is not nought makes the quotient smaller than half the number -/
theorem tdiv_half {a b : Int} (ha : Fit a) (h0 : b ≠ 0) (h1 : b ≠ -1) (h : Apart (a.tmod b) b) : Fit (a.tdiv b - 1) := by
  have hf := natAbs_tdiv a b
  have h2 : 2 ≤ b.natAbs := by
    obtain ⟨g, -⟩ := h
    rcases (by omega : b = 0 ∨ b = 1 ∨ 2 ≤ b.natAbs) with rfl | rfl | h
    · exact absurd rfl h0
    · simp at g
    · exact h
  have : a.natAbs / b.natAbs ≤ a.natAbs / 2 := Nat.div_le_div_left h2 (by decide)
  unfold Fit at *
  omega
theorem div_far {a b : Int} (ha : Fit a) (h0 : b ≠ 0) (h1 : b ≠ -1) (h : Apart (a.tmod b) b) : divT a b = (a.tdiv b - 1, 0) := by
  unfold divT; rw [if_neg h0, fdiv_far h0 h, chk_in (tdiv_half ha h0 h1 h)]
theorem div_near {a b : Int} (ha : Fit a) (h0 : b ≠ 0) (h1 : b ≠ -1) (h : ¬ Apart (a.tmod b) b) : divT a b = (a.tdiv b, 0) := by
  unfold divT; rw [if_neg h0, fdiv_near h0 h, chk_in (tdiv_fit ha h1)]
theorem mod_no (a : Int) : modT a 0 = (0, 10) := if_pos rfl
theorem mod_one (a : Int) : modT a (-1) = (0, 0) := by
  unfold modT; rw [if_neg (by decide)]
  have h := Int.mul_fdiv_add_fmod a (-1)
  have h2 : a.fdiv (-1) = -a := by simp [Int.fdiv_neg]
  rw [h2] at h
  rw [show a.fmod (-1) = 0 by omega]
theorem mod_far {a b : Int} (h0 : b ≠ 0) (h : Apart (a.tmod b) b) : modT a b = (a.tmod b + b, 0) := by
  unfold modT; rw [if_neg h0, fmod_far h0 h]
theorem mod_near {a b : Int} (h0 : b ≠ 0) (h : ¬ Apart (a.tmod b) b) : modT a b = (a.tmod b, 0) := by
  unfold modT; rw [if_neg h0, fmod_near h0 h]
theorem tmod_fit {a b : Int} (hb : Fit b) (h0 : b ≠ 0) : Fit (a.tmod b) := by
  have := tmod_lt (a := a) h0; unfold Fit at *; omega
theorem fit_add_rem {a b : Int} (hb : Fit b) (h0 : b ≠ 0) (h : Apart (a.tmod b) b) : Fit (a.tmod b + b) := by
  have h1 := tmod_lt (a := a) h0
  obtain ⟨h2, h3⟩ := h
  unfold Fit at *
  omega
theorem ret_int {k : IntKind} {a b : Int} (h : a = b) : Ending.returned (.int k a) = .returned (.int k b) := by rw [h]
theorem npost' {r : Int × Int} {v x : Int} {w : World} (h : r = (v, x)) : NPost r w (.returned (.tuple #[.int .i64 v, .int .i64 x])) w := npost h (Below.refl _ _)
theorem bytes_no {a : ByteArray} {l : List UInt8} (h : ¬ a = ⟨l.toArray⟩) : (a.toList == l) = false := by
  cases e : a.toList == l with
  | false => rfl
  | true =>
    refine absurd ?_ h
    have e2 := eq_of_beq e
    obtain ⟨d⟩ := a
    have h3 : (ByteArray.mk d).toList = d.toList := by have := ByteArray.toList_mk d.toList; simpa using this
    rw [h3] at e2
    rw [← e2]
end Go.Proofs.YtkhchmgdaolojaaDoor.Num
