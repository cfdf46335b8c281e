
/-
  Layer 1: what an operator makes of whole numbers (plain), and the pair's and the whole number's methods, walked over the program.
-/
import Derived.Test.YtkhchmgdaolojaaDoorReg
import Derived.Test.YtkhchmgdaolojaaDoorBas
import Derived.Test.YtkhchmgdaolojaaDoorProg
import Derived.IntWalk
import Derived.Lib.Hide
import Derived.Deep.QuietTactic
import Derived.BigQuiet
namespace Go.Proofs.YtkhchmgdaolojaaDoor.Num
open Go Go.RowKit Go.Proofs.YtkhchmgdaolojaaDoor.Reg
set_option linter.unusedVariables false

/-- the number fits 64 bits -/
def Fit (a : Int) : Prop := -9223372036854775808 ≤ a ∧ a ≤ 9223372036854775807
instance (a : Int) : Decidable (Fit a) := by unfold Fit; exact inferInstance
theorem wrap_eq (r : Int) : wrap64 r = (r + 9223372036854775808) % 18446744073709551616 - 9223372036854775808 := by unfold wrap64; rfl
theorem wrap_in {r : Int} (h : Fit r) : wrap64 r = r := by rw [wrap_eq]; unfold Fit at h; omega
theorem wrap_fit (r : Int) : Fit (wrap64 r) := by have := wrap_eq r; unfold Fit; omega
theorem draw_b {w u : World} {n : Nat} (h : Below n w u) (k : Nat) : Below n w (u.drewN k) := ⟨h.os, by simpa using h.tape, h.output, by simpa using h.size, fun b hb => by simpa using h.block b hb⟩
def NPost (r : Int × Int) (w : World) (e : Ending) (w' : World) : Prop := e = .returned (.tuple #[.int .i64 r.1, .int .i64 r.2]) ∧ Below w.heap.size w w'
theorem npost {r : Int × Int} {v x : Int} {w w' : World} (h : r = (v, x)) (hb : Below w.heap.size w w') : NPost r w (.returned (.tuple #[.int .i64 v, .int .i64 x])) w' := by subst h; exact ⟨rfl, hb⟩
theorem natAbs_tdiv (a b : Int) : (a.tdiv b).natAbs = a.natAbs / b.natAbs := Int.natAbs_tdiv a b
theorem tdiv_fit {a b : Int} (ha : Fit a) (hb : b ≠ -1) : Fit (a.tdiv b) := by
  have h := natAbs_tdiv a b
  unfold Fit at *
  by_cases h0 : b = 0
  · subst h0; simp
  · have h2 : b = 1 ∨ 2 ≤ b.natAbs := by omega
    rcases h2 with rfl | h2
    · simpa using ha
    · have : a.natAbs / b.natAbs ≤ a.natAbs / 2 := Nat.div_le_div_left h2 (by decide)
      omega
theorem tmod_sign {a b : Int} : (0 ≤ a → 0 ≤ a.tmod b) ∧ (a ≤ 0 → a.tmod b ≤ 0) :=
  ⟨fun h => Int.tmod_nonneg b h, fun h => by have := Int.tmod_nonneg b (a := -a) (by omega); rw [Int.neg_tmod] at this; omega⟩
theorem tmod_lt {a b : Int} (h0 : b ≠ 0) : (a.tmod b).natAbs < b.natAbs := by
  rw [Int.natAbs_tmod]; exact Nat.mod_lt _ (by omega)
theorem ret_int {k : IntKind} {a b : Int} (h : a = b) : Ending.returned (.int k a) = .returned (.int k b) := by rw [h]
theorem npost' {r : Int × Int} {v x : Int} {w : World} (h : r = (v, x)) : NPost r w (.returned (.tuple #[.int .i64 v, .int .i64 x])) w := npost h (Below.refl _ _)
theorem bytes_no {a : ByteArray} {l : List UInt8} (h : ¬ a = ⟨l.toArray⟩) : (a.toList == l) = false := by
  cases e : a.toList == l with
  | false => rfl
  | true =>
    refine absurd ?_ h
    have e2 := eq_of_beq e
    obtain ⟨d⟩ := a
    have h3 : (ByteArray.mk d).toList = d.toList := by have := ByteArray.toList_mk d.toList; simpa using this
    rw [h3] at e2
    rw [← e2]
end Go.Proofs.YtkhchmgdaolojaaDoor.Num
