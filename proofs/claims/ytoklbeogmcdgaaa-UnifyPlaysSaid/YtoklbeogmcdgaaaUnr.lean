
/-
  Layer 9, plain: what waits may be taken apart; how much may be looked at decides, nothing else does.
-/
import Derived.Test.YtoklbeogmcdgaaaUnd
namespace Go.Proofs.Ytoklbeogmcdgaaa.Tms
open Go Go.RowKit Go.Proofs.Ytoklbeogmcdgaaa.Reg Go.Proofs.Ytoklbeogmcdgaaa.Rws Go.Proofs.Ytoklbeogmcdgaaa.Maps
set_option linter.unusedVariables false
set_option linter.unusedSimpArgs false

theorem hasP_app (S : Sto) (v : Nat) : ∀ (k : Nat) (l m : List Nat), hasP S v k (l ++ m) = if (hasP S v k l).1 = some false then hasP S v (hasP S v k l).2 m else hasP S v k l
  | 0, [], m => by simp [hasP]
  | 0, c :: l, m => by simp [hasP]
  | k + 1, [], m => by simp [hasP]
  | k + 1, c :: l, m => by
    rw [List.cons_append]
    by_cases h : fol S c = v
    · have e : ∀ l', hasP S v (k + 1) (c :: l') = (some true, k) := fun l' => by simp only [hasP]; rw [if_pos h]
      rw [e, e]
      simp
    · have e : ∀ l', hasP S v (k + 1) (c :: l') = hasP S v k (argN S c ++ l') := fun l' => by simp only [hasP]; rw [if_neg h]
      rw [e, e, ← List.append_assoc, hasP_app S v k]
theorem uniP_fuel (sf : Bool) : ∀ (f f' k : Nat) (S : Sto) (l : List (Nat × Nat)), k ≤ f → k ≤ f' → uniP sf f k S l = uniP sf f' k S l
  | 0, 0, k, S, l, _, _ => rfl
  | 0, f' + 1, k, S, l, h, _ => by
    obtain rfl : k = 0 := by omega
    cases l with
    | nil => simp [uniP]
    | cons p l => simp [uniP]
  | f + 1, 0, k, S, l, _, h => by
    obtain rfl : k = 0 := by omega
    cases l with
    | nil => simp [uniP]
    | cons p l => simp [uniP]
  | f + 1, f' + 1, k, S, l, h, h' => by
    cases l with
    | nil => simp [uniP]
    | cons p l =>
      by_cases hk : k = 0
      · simp [uniP, hk]
      · have hle := oneP_le S sf (k - 1) p.1 p.2
        simp only [uniP, if_neg hk]
        generalize hr : (oneP S sf (k - 1) p.1 p.2).1 = r at hle
        obtain ⟨r1, r2, r3⟩ := r
        dsimp only at hle
        cases r1 with
        | none => rfl
        | some b =>
          cases b with
          | false => rfl
          | true => exact uniP_fuel sf f f' r3 r2 _ (by omega) (by omega)
/-- as much fuel as may be looked at -/
noncomputable def uniK (sf : Bool) (k : Nat) (S : Sto) (l : List (Nat × Nat)) : Option Bool × Sto × Nat := uniP sf k k S l
theorem uniK_nil (sf : Bool) (k : Nat) (S : Sto) : uniK sf k S [] = (some true, S, k) := by unfold uniK; cases k <;> simp [uniP]
theorem uniK_zero (sf : Bool) (S : Sto) (p : Nat × Nat) (l : List (Nat × Nat)) : uniK sf 0 S (p :: l) = (none, S, 0) := by simp [uniK, uniP]
theorem uniK_cons (sf : Bool) (k : Nat) (S : Sto) (p : Nat × Nat) (l : List (Nat × Nat)) : uniK sf (k + 1) S (p :: l) = if (oneP S sf k p.1 p.2).1.1 = some true then uniK sf (oneP S sf k p.1 p.2).1.2.2 (oneP S sf k p.1 p.2).1.2.1 ((oneP S sf k p.1 p.2).2 ++ l) else (oneP S sf k p.1 p.2).1 := by
  have hle := oneP_le S sf k p.1 p.2
  unfold uniK
  simp only [uniP, if_neg (Nat.succ_ne_zero k), Nat.add_sub_cancel]
  generalize hr : (oneP S sf k p.1 p.2).1 = r at hle
  obtain ⟨r1, r2, r3⟩ := r
  dsimp only at hle
  cases r1 with
  | none => simp
  | some b =>
    cases b with
    | false => simp
    | true => simp only [if_pos]; exact uniP_fuel sf k r3 r3 r2 _ hle (Nat.le_refl _)
theorem uniK_app (sf : Bool) (m : List (Nat × Nat)) : ∀ (k : Nat) (S : Sto) (l : List (Nat × Nat)), uniK sf k S (l ++ m) = if (uniK sf k S l).1 = some true then uniK sf (uniK sf k S l).2.2 (uniK sf k S l).2.1 m else uniK sf k S l := by
  intro k
  induction k using Nat.strongRecOn with
  | _ k ih =>
    intro S l
    cases l with
    | nil => rw [uniK_nil]; simp
    | cons p l =>
      cases k with
      | zero => rw [List.cons_append, uniK_zero, uniK_zero]; simp
      | succ k =>
        have hle := oneP_le S sf k p.1 p.2
        rw [List.cons_append, uniK_cons, uniK_cons]
        by_cases h : (oneP S sf k p.1 p.2).1.1 = some true
        · rw [if_pos h, if_pos h, ← List.append_assoc]
          exact ih _ (by omega) _ _
        · rw [if_neg h, if_neg h, if_neg h]
/-- one pair, as the reference takes it -/
theorem uniK_one (sf : Bool) (k : Nat) (S : Sto) (a b : Nat) : uniK sf (k + 1) S [(a, b)] = if (oneP S sf k a b).1.1 = some true then uniK sf (oneP S sf k a b).1.2.2 (oneP S sf k a b).1.2.1 (oneP S sf k a b).2 else (oneP S sf k a b).1 := by
  rw [uniK_cons, List.append_nil]
/-- the pairs of a list, one behind the other -/
theorem uniK_take (sf : Bool) (k : Nat) (S : Sto) (l : List (Nat × Nat)) (i : Nat) (hi : i < l.length) {S' : Sto} {k' : Nat} (h : uniK sf k S (l.take i) = (some true, S', k')) : uniK sf k S (l.take (i + 1)) = uniK sf k' S' [l[i]] := by
  rw [List.take_succ_eq_append_getElem hi, uniK_app, h]
  simp
theorem uniK_stop (sf : Bool) (k : Nat) (S : Sto) (l : List (Nat × Nat)) (i : Nat) (h : (uniK sf k S (l.take i)).1 ≠ some true) : uniK sf k S l = uniK sf k S (l.take i) := by
  have := uniK_app sf (l.drop i) k S (l.take i)
  rw [List.take_append_drop, if_neg h] at this
  exact this
theorem uniK_le (sf : Bool) : ∀ (k : Nat) (S : Sto) (l : List (Nat × Nat)), (uniK sf k S l).2.2 ≤ k := by
  intro k
  induction k using Nat.strongRecOn with
  | _ k ih =>
    intro S l
    cases l with
    | nil => rw [uniK_nil]; exact Nat.le_refl _
    | cons p l =>
      cases k with
      | zero => rw [uniK_zero]; exact Nat.le_refl _
      | succ k =>
        have hle := oneP_le S sf k p.1 p.2
        rw [uniK_cons]
        split
        · have := ih _ (show (oneP S sf k p.1 p.2).1.2.2 < k + 1 by omega) (oneP S sf k p.1 p.2).1.2.1 ((oneP S sf k p.1 p.2).2 ++ l)
          omega
        · omega
/-- has: the parts of a list, one behind the other -/
theorem hasP_take (S : Sto) (v k : Nat) (l : List Nat) (i : Nat) (hi : i < l.length) {k' : Nat} (h : hasP S v k (l.take i) = (some false, k')) : hasP S v k (l.take (i + 1)) = hasP S v k' [l[i]] := by
  rw [List.take_succ_eq_append_getElem hi, hasP_app, h]
  simp
theorem hasP_stop (S : Sto) (v k : Nat) (l : List Nat) (i : Nat) (h : (hasP S v k (l.take i)).1 ≠ some false) : hasP S v k l = hasP S v k (l.take i) := by
  have := hasP_app S v k (l.take i) (l.drop i)
  rw [List.take_append_drop, if_neg h] at this
  exact this
theorem hasP_one (S : Sto) (v k c : Nat) : hasP S v (k + 1) [c] = if fol S c = v then (some true, k) else hasP S v k (argN S c) := by
  simp only [hasP, List.append_nil]
theorem hasP_zero (S : Sto) (v c : Nat) : hasP S v 0 [c] = (none, 0) := by simp [hasP]
end Go.Proofs.Ytoklbeogmcdgaaa.Tms
