
/-
  Layer 15: what bodies and clauses are, in plain Lean: a body's body is itself; a clause, put together, is told as the same. No program stands here.
-/
import Derived.Test.YtmlceamcpelklaaGcl
import Derived.Test.YtmlceamcpelklaaGmy
namespace Go.Proofs.Ytmlceamcpelklaa.Tms
open Go Go.RowKit
set_option linter.unusedVariables false

theorem kindOf_pos (s : ByteArray) (n : Int) : 0 ≤ kindOf s n := by
  unfold kindOf
  cases hf : kindsL.find? fun x => s.toList == x.1.toList && n == x.2.1 with
  | none => exact Int.le_refl _
  | some x =>
    have hm := List.mem_of_find?_eq_some hf
    simp only [kindsL, List.mem_cons, List.not_mem_nil, or_false] at hm
    rcases hm with rfl | rfl | rfl | rfl | rfl | rfl | rfl | rfl | rfl | rfl | rfl <;> decide
theorem kindT_pos {t : Tm} (h : t.k = 3 ∨ t.k = 4) : 0 ≤ kindT t := by
  unfold kindT
  rcases h with h | h
  · rw [if_pos h]; exact kindOf_pos _ _
  · rw [if_neg (by omega), if_pos h]
    split
    · exact Int.le_refl _
    · exact kindOf_pos _ _
theorem kindT_neg {t : Tm} (h : ¬(t.k = 3 ∨ t.k = 4)) : kindT t = -1 := by
  unfold kindT
  rw [if_neg (by omega), if_neg (by omega)]
theorem kindT_two (s : ByteArray) (x y : Tm) : kindT (compT s [x, y]) = kindOf s (if (s.toList == [99, 97, 108, 108]) = true then 1 else 2) := by
  unfold kindT
  simp [compT, Tm.k, Tm.args, Tm.s]
theorem call_kind (t : Tm) : kindT (compT (⟨#[99, 97, 108, 108]⟩ : ByteArray) [t]) = 8 := by
  have : kindT (compT (⟨#[99, 97, 108, 108]⟩ : ByteArray) [t]) = kindT (compT (⟨#[99, 97, 108, 108]⟩ : ByteArray) [zeroTm]) := by
    unfold kindT; simp [compT, Tm.k, Tm.args, Tm.s]
  rw [this]
  decide +kernel
theorem pair_kind {t : Tm} (h : isPair t = true) (x y : Tm) : kindT (compT t.s [x, y]) = kindT t := by
  obtain ⟨h1, h2⟩ := pair_args h
  have h3 : t.k ≠ 3 := by omega
  have e : kindT t = kindOf t.s (if (t.s.toList == [99, 97, 108, 108]) = true then 1 else t.args.length) := by
    unfold kindT
    rw [if_neg h3, if_pos h1, if_neg (by rw [h2]; simp)]
  rw [kindT_two, e, h2]
  rfl
theorem pair_kindT {t : Tm} (h : isPair t = true) (x y : Tm) : isPair (compT t.s [x, y]) = true := by
  unfold isPair at h ⊢
  rw [pair_kind (by exact h)]
  exact h
/-- a body's body is itself -/
theorem body_idem : ∀ (n : Nat) (t : Tm), t.size ≤ n → (bodyT t).2 = true → bodyT (bodyT t).1 = ((bodyT t).1, true) ∧ ((bodyT t).1.k ≠ 1 ∧ (bodyT t).1.k ≠ 2)
  | 0, t, h, _ => by have := size_pos t; omega
  | n + 1, t, h, hb => by
    rw [bodyT_eq] at hb
    have e := bodyT_eq t
    by_cases k1 : t.k = 1
    · rw [if_pos k1] at e
      rw [e]
      refine ⟨?_, by simp [compT, Tm.k], by simp [compT, Tm.k]⟩
      rw [bodyT_eq]
      have hk := call_kind t
      rw [if_neg (by simp [compT, Tm.k]), if_neg (by unfold isPair; rw [hk]; decide)]
      simp [compT, Tm.k]
    · rw [if_neg k1] at e hb
      by_cases hp : isPair t = true
      · have hs := pair_size hp
        rw [if_pos hp] at e hb
        have h1 : (bodyT (lftT t)).2 = true := by
          cases h1 : (bodyT (lftT t)).2
          · rw [h1] at hb; simp at hb
          · rfl
        rw [if_neg (by rw [h1]; simp)] at e hb
        have h2 : (bodyT (rgtT t)).2 = true := by
          cases h2 : (bodyT (rgtT t)).2
          · rw [h2] at hb; simp at hb
          · rfl
        rw [if_neg (by rw [h2]; simp)] at e
        rw [e]
        refine ⟨?_, by simp [compT, Tm.k], by simp [compT, Tm.k]⟩
        obtain ⟨i1, -⟩ := body_idem n (lftT t) (by omega) h1
        obtain ⟨i2, -⟩ := body_idem n (rgtT t) (by omega) h2
        rw [bodyT_eq, if_neg (by simp [compT, Tm.k]), if_pos (pair_kindT hp _ _)]
        show (if (bodyT (bodyT (lftT t)).1).2 = false then _ else if (bodyT (bodyT (rgtT t)).1).2 = false then _ else (compT t.s [(bodyT (bodyT (lftT t)).1).1, (bodyT (bodyT (rgtT t)).1).1], true)) = _
        rw [i1, i2]
        simp
      · rw [if_neg hp] at e hb
        rw [e]
        refine ⟨?_, k1, by simpa using hb⟩
        rw [e]
        simp only [Prod.mk.injEq, true_and]
        exact hb
theorem body_again {t : Tm} (h : (bodyT t).2 = true) : bodyT (bodyT t).1 = ((bodyT t).1, true) := (body_idem _ t (Nat.le_refl _) h).1
theorem check_zero {t : Tm} (h : mayT t = true) (hs : t.size ≤ 2000) : checkT t = 0 := by
  have := deep_le t
  rw [checkT_eq, h, if_neg (by simp), if_neg (by omega), if_neg (by omega)]
theorem check_may {t : Tm} (h : checkT t = 0) : mayT t = true := by
  rw [checkT_eq] at h
  cases hm : mayT t
  · rw [hm] at h; simp at h
  · rfl
theorem may_kind {t : Tm} (h : mayT t = true) : t.k = 1 ∨ t.k = 2 ∨ t.k = 3 ∨ t.k = 4 := by
  obtain ⟨k, n, s, a⟩ := t
  simp only [mayT, Bool.and_eq_true, mayB] at h
  simp only [Tm.k]
  by_cases h1 : k = 1
  · exact .inl h1
  by_cases h2 : k = 2
  · exact .inr (.inl h2)
  by_cases h3 : k = 3
  · exact .inr (.inr (.inl h3))
  by_cases h4 : k = 4
  · exact .inr (.inr (.inr h4))
  simp_all
theorem may_arg {t x : Tm} (h : mayT t = true) (hx : x ∈ t.args) : mayT x = true := by
  obtain ⟨k, n, s, a⟩ := t
  simp only [mayT, Bool.and_eq_true] at h
  simp only [Tm.args] at hx
  have key : ∀ l : List Tm, mayTL l = true → x ∈ l → mayT x = true := by
    intro l
    induction l with
    | nil => simp
    | cons y l ih =>
      intro h1 h2
      simp only [mayTL, Bool.and_eq_true] at h1
      rcases List.mem_cons.1 h2 with rfl | h2
      · exact h1.1
      · exact ih h1.2 h2
  exact key a h.2 hx
theorem may_s {t : Tm} (h : mayT t = true) (h4 : t.k = 4) : t.s.size ≤ 1000 := by
  obtain ⟨k, n, s, a⟩ := t
  simp only [Tm.k] at h4
  subst h4
  simp only [mayT, Bool.and_eq_true, mayB] at h
  simp only [Tm.s]
  simp at h
  exact h.1.2.1
theorem body_may : ∀ (n : Nat) (t : Tm), t.size ≤ n → mayT t = true → (bodyT t).2 = true → mayT (bodyT t).1 = true
  | 0, t, h, _, _ => by have := size_pos t; omega
  | n + 1, t, h, hm, hb => by
    rw [bodyT_eq] at hb
    rw [bodyT_eq]
    by_cases k1 : t.k = 1
    · rw [if_pos k1]
      exact comp_may (by decide +kernel) (by simp) (by simp) (by simp [mayTL, hm])
    · rw [if_neg k1] at hb ⊢
      by_cases hp : isPair t = true
      · have hs := pair_size hp
        have ha := (pair_args hp).2
        rw [if_pos hp] at hb ⊢
        have h1 : (bodyT (lftT t)).2 = true := by
          cases h1 : (bodyT (lftT t)).2
          · rw [h1] at hb; simp at hb
          · rfl
        rw [if_neg (by rw [h1]; simp)] at hb ⊢
        have h2 : (bodyT (rgtT t)).2 = true := by
          cases h2 : (bodyT (rgtT t)).2
          · rw [h2] at hb; simp at hb
          · rfl
        rw [if_neg (by rw [h2]; simp)]
        have m1 := body_may n (lftT t) (by omega) (may_arg hm (by rw [ha]; simp)) h1
        have m2 := body_may n (rgtT t) (by omega) (may_arg hm (by rw [ha]; simp)) h2
        exact comp_may (may_s hm (pair_args hp).1) (by simp) (by simp) (by simp [mayTL, m1, m2])
      · rw [if_neg hp]; exact hm
/-- Body of a term that may be and is not great: just whether it is one -/
theorem bodE_good {t : Tm} (hm : mayT t = true) (hs : t.size ≤ 1000) : bodE t = if (bodyT t).2 = true then ((bodyT t).1, 0) else (zeroTm, 13) := by
  unfold bodE
  rw [if_neg (by rw [check_zero hm (by omega)]; simp)]
  cases hb : (bodyT t).2
  · simp
  · have := bodyT_size t
    rw [if_neg (by simp), if_neg (by rw [check_zero (body_may _ t (Nat.le_refl _) hm hb) (by omega)]; simp), if_pos rfl]
theorem bodE_size (t : Tm) : (bodE t).1.size ≤ 2 * t.size := by
  have h := bodyT_size t
  have hp := size_pos t
  have hz : zeroTm.size = 1 := by decide +kernel
  unfold bodE
  split
  · simp only; omega
  · split
    · simp only; omega
    · split
      · simp only; omega
      · exact h
theorem clsT_size (t : Tm) : (clsT t).1.size ≤ t.size ∧ (clsT t).2.1.size ≤ 2 * t.size + 2 := by
  have hz : zeroTm.size = 1 := by decide +kernel
  have hp := size_pos t
  have hH : (headC t).size ≤ t.size := by
    unfold headC
    split
    · next h => have := rule_size h; omega
    · exact Nat.le_refl _
  have hR : (restC t).size ≤ t.size + 1 := by
    unfold restC
    split
    · next h => have := rule_size h; omega
    · simp [atomT, Tm.size, sizeL]
  have hb := bodE_size (restC t)
  unfold clsT
  repeat' split
  all_goals refine ⟨?_, ?_⟩ <;> simp only <;> omega
theorem rule_two (x y : Tm) : isRule (compT (⟨#[58, 45]⟩ : ByteArray) [x, y]) = true := by
  have : ((⟨#[58, 45]⟩ : ByteArray)).toList = [58, 45] := by decide +kernel
  simp [isRule, compT, Tm.k, Tm.s, Tm.args, this]
/-- what a good clause is told as -/
theorem clause_law (L : List Pt) (hL : L.length ≤ 60) : ((clsT (goodT L)).2.2.1 ≠ 0 → (clsT (goodT L)).1.k = 0 ∧ (clsT (goodT L)).2.1.k = 0 ∧ ((clsT (goodT L)).2.2.1 = 13 ↔ (clsT (goodT L)).2.2.2.k ≠ 0)) ∧
    ((clsT (goodT L)).2.2.1 = 0 → clsT (compT (⟨#[58, 45]⟩ : ByteArray) [(clsT (goodT L)).1, (clsT (goodT L)).2.1]) = ((clsT (goodT L)).1, (clsT (goodT L)).2.1, 0, zeroTm) ∧ ((clsT (goodT L)).1.k = 3 ∨ (clsT (goodT L)).1.k = 4) ∧ 0 ≤ kindT (clsT (goodT L)).2.1) := by
  have hz := goodT_size L
  have hm := good_may L
  generalize goodT L = t at *
  have hH : mayT (headC t) = true ∧ (headC t).size ≤ t.size := by
    unfold headC
    split
    · next h => exact ⟨may_arg hm (by rw [(rule_args h).2.2]; simp), by have := rule_size h; omega⟩
    · exact ⟨hm, Nat.le_refl _⟩
  have hR : mayT (restC t) = true ∧ (restC t).size ≤ t.size + 1 := by
    unfold restC
    split
    · next h => exact ⟨may_arg hm (by rw [(rule_args h).2.2]; simp), by have := rule_size h; omega⟩
    · exact ⟨atom_may (by decide +kernel), by simp [atomT, Tm.size, sizeL]⟩
  obtain ⟨hH1, hH2⟩ := hH
  obtain ⟨hR1, hR2⟩ := hR
  have hc : clsT t = if (headC t).k = 1 then (zeroTm, zeroTm, 12, zeroTm) else if (headC t).k = 2 then (zeroTm, zeroTm, 13, headC t)
      else if (bodyT (restC t)).2 = true then (headC t, (bodyT (restC t)).1, 0, zeroTm) else (zeroTm, zeroTm, 13, restC t) := by
    unfold clsT
    rw [if_neg (by rw [check_zero hm (by omega)]; simp), bodE_good hR1 (by omega)]
    cases hb : (bodyT (restC t)).2 <;> simp
  rw [hc]
  have z0 : zeroTm.k = 0 := rfl
  by_cases k1 : (headC t).k = 1
  · rw [if_pos k1]; simp [z0]
  rw [if_neg k1]
  by_cases k2 : (headC t).k = 2
  · rw [if_pos k2]; simp [z0, k2]
  rw [if_neg k2]
  have hk := may_kind hH1
  cases hb : (bodyT (restC t)).2
  · have := may_kind hR1
    simp [z0]; omega
  · have hb2 := bodyT_size (restC t)
    obtain ⟨i1, i2, i3⟩ := body_idem _ (restC t) (Nat.le_refl _) hb
    have hbm := body_may _ (restC t) (Nat.le_refl _) hR1 hb
    generalize (bodyT (restC t)).1 = b at *
    generalize headC t = h at *
    rw [if_pos rfl]
    refine ⟨fun h => absurd rfl h, fun _ => ⟨?_, by show h.k = 3 ∨ h.k = 4; omega, kindT_pos (by have := may_kind hbm; show b.k = 3 ∨ b.k = 4; omega)⟩⟩
    show clsT (compT (⟨#[58, 45]⟩ : ByteArray) [h, b]) = (h, b, 0, zeroTm)
    have hcm : mayT (compT (⟨#[58, 45]⟩ : ByteArray) [h, b]) = true := comp_may (by decide +kernel) (by simp) (by simp) (by simp [mayTL, hH1, hbm])
    have hcs : (compT (⟨#[58, 45]⟩ : ByteArray) [h, b]).size = h.size + b.size + 1 := by simp [compT, Tm.size, sizeL]
    have hr := rule_two h b
    have eh : headC (compT (⟨#[58, 45]⟩ : ByteArray) [h, b]) = h := by unfold headC; rw [if_pos hr]; rfl
    have er : restC (compT (⟨#[58, 45]⟩ : ByteArray) [h, b]) = b := by unfold restC; rw [if_pos hr]; rfl
    unfold clsT
    rw [if_neg (by rw [check_zero hcm (by omega)]; simp), eh, er, if_neg k1, if_neg k2, bodE_good hbm (by omega), i1]
    simp
end Go.Proofs.Ytmlceamcpelklaa.Tms
