
/-
  TermNumbers, the plain law: numbered twice is numbered once; the numbers are 0, 1 and so on; size and depth stay.
-/
import Derived.Test.YtkhchmgdaolojaaNup
import Derived.Test.YtkhchmgdaolojaaGmy
import Derived.Test.YtkhchmgdaolojaaOrd
namespace Go.Proofs.Ytkhchmgdaolojaa.Tms
open Go Go.RowKit
set_option linter.unusedVariables false

theorem sameT_self (t : Tm) : sameT t t = true := (cmpT_same t t).1 (cmpT_refl t)
mutual
theorem renT_size (φ : Int → Int) : ∀ t : Tm, (renT φ t).size = t.size
  | .mk k n s a => by simp only [renT, Tm.size, renL_size φ a]
theorem renL_size (φ : Int → Int) : ∀ l : List Tm, sizeL (renL φ l) = sizeL l
  | [] => by simp [renL, sizeL]
  | t :: l => by simp only [renL, sizeL, renT_size φ t, renL_size φ l]
end
mutual
theorem renT_deep (φ : Int → Int) : ∀ t : Tm, deepT (renT φ t) = deepT t
  | .mk k n s a => by simp only [renT, deepT, renL_deep φ a]
theorem renL_deep (φ : Int → Int) : ∀ l : List Tm, deepL (renL φ l) = deepL l
  | [] => by simp [renL, deepL]
  | t :: l => by simp only [renL, deepL, renT_deep φ t, renL_deep φ l]
end
mutual
theorem flatT_ren (φ : Int → Int) : ∀ t : Tm, flatT (renT φ t) = (flatT t).map fun p => (renT φ p.1, p.2)
  | .mk k n s a => by simp only [renT, flatT, List.map_cons, flatL_ren φ a]
theorem flatL_ren (φ : Int → Int) : ∀ l : List Tm, flatL (renL φ l) = (flatL l).map fun p => (renT φ p.1, p.2)
  | [] => by simp [renL, flatL]
  | t :: l => by simp only [renL, flatL, List.map_append, flatT_ren φ t, flatL_ren φ l]
end
theorem renT_k (φ : Int → Int) (t : Tm) : (renT φ t).k = t.k := by obtain ⟨k, n, s, a⟩ := t; simp [renT, Tm.k]
theorem renT_n (φ : Int → Int) (t : Tm) (h : t.k = 1) : (renT φ t).n = φ t.n := by
  obtain ⟨k, n, s, a⟩ := t
  simp only [Tm.k] at h
  simp [renT, Tm.n, h]
mutual
theorem renT_fix (φ : Int → Int) : ∀ t : Tm, (∀ p ∈ flatT t, p.1.k = 1 → φ p.1.n = p.1.n) → renT φ t = t
  | .mk k n s a, h => by
    rw [renT, renL_fix φ a fun p hp => h p (by rw [flatT]; exact List.mem_cons_of_mem _ hp)]
    congr 1
    split
    · rename_i hk
      exact h (.mk k n s a, 0) (by rw [flatT]; exact List.mem_cons_self ..) hk
    · rfl
theorem renL_fix (φ : Int → Int) : ∀ l : List Tm, (∀ p ∈ flatL l, p.1.k = 1 → φ p.1.n = p.1.n) → renL φ l = l
  | [], _ => by simp [renL]
  | t :: l, h => by
    rw [renL, renT_fix φ t fun p hp => h p (by rw [flatL]; exact List.mem_append_left _ hp), renL_fix φ l fun p hp => h p (by rw [flatL]; exact List.mem_append_right _ hp)]
end
/-- 0, 1 and so on -/
def ints (k : Nat) : List Int := (List.range k).map Int.ofNat
theorem ints_succ (k : Nat) : ints (k + 1) = ints k ++ [(k : Int)] := by simp [ints, List.range_succ]
theorem ints_len (k : Nat) : (ints k).length = k := by simp [ints]
theorem place_ints : ∀ (k m : Nat), place (ints k) (m : Int) = if m < k then some m else none
  | 0, m => by simp [ints, place]
  | k + 1, m => by
    rw [ints_succ]
    have ih := place_ints k m
    by_cases h : m < k
    · rw [if_pos h] at ih
      rw [place_app _ ih, if_pos (by omega)]
    · rw [if_neg h] at ih
      by_cases e : m = k
      · subst e
        rw [place_new ih, ints_len, if_pos (by omega)]
      · rw [if_neg (by omega)]
        have key : ∀ (L : List Int) (n x : Int), place L n = none → n ≠ x → place (L ++ [x]) n = none := by
          intro L
          induction L with
          | nil => intro n x _ hne; simp [place, hne]
          | cons y L ihL =>
            intro n x h1 hne
            simp only [List.cons_append]
            unfold place at h1 ⊢
            split
            · rename_i e'; rw [if_pos e'] at h1; cases h1
            · rename_i e'
              rw [if_neg e'] at h1
              cases hp : place L n with
              | none => rw [ihL n x hp hne]; rfl
              | some p => rw [hp] at h1; cases h1
        exact key _ _ _ ih (by omega)
theorem numP_ints {k m : Nat} (h : m < k) : numP (ints k) (m : Int) = m := by unfold numP; rw [place_ints, if_pos h]; rfl
theorem numL_ints (k m : Nat) (h : m ≤ k) : numL (ints k) (m : Int) = ints (if m < k then k else k + 1) := by
  unfold numL
  rw [place_ints]
  by_cases hm : m < k
  · simp [hm]
  · have : m = k := by omega
    subst this
    simp [ints_succ]
theorem numP_le (L : List Int) (n : Int) : numP L n ≤ L.length := by
  unfold numP
  cases hp : place L n with
  | none => simp
  | some p => have := place_lt hp; simp; omega
theorem numL_len_eq (L : List Int) (n : Int) : (numL L n).length = if numP L n < L.length then L.length else L.length + 1 := by
  unfold numL numP
  cases hp : place L n with
  | none => simp
  | some p => have := place_lt hp; simp [this]

theorem vars_ren (F : List Int) : ∀ (D : List (Tm × Int)) (L : List Int), (∃ M, F = D.foldl takeL L ++ M) →
    (D.map fun p => (renT (fun n => (numP F n : Int)) p.1, p.2)).foldl takeL (ints L.length) = ints (D.foldl takeL L).length
  | [], L, _ => rfl
  | p :: D, L, ⟨M, hM⟩ => by
    rw [List.map_cons, List.foldl_cons, List.foldl_cons]
    have ih := vars_ren F D (takeL L p) ⟨M, by rw [hM, List.foldl_cons]⟩
    rw [← ih]
    congr 1
    by_cases hk : p.1.k = 1
    · have h1 : takeL L p = numL L p.1.n := by unfold takeL; rw [if_pos hk]
      have hF : place F p.1.n = some (numP L p.1.n) := by
        obtain ⟨M', h2⟩ := fold_app D (takeL L p)
        rw [hM, List.foldl_cons, h2, h1, List.append_assoc]
        exact place_app _ (place_num _ _)
      have hφ : numP F p.1.n = numP L p.1.n := by
        have : numP F p.1.n = (place F p.1.n).getD F.length := rfl
        rw [this, hF]
        rfl
      unfold takeL
      simp only [renT_k, hk, if_true, renT_n _ _ hk]
      rw [hφ, numL_ints _ _ (numP_le _ _), numL_len_eq]
    · unfold takeL
      simp only [renT_k, hk, if_false]
theorem varsT_num (t : Tm) : varsT (numT t) = ints (varsT t).length := by
  have h : varsD ((flatT t).map fun p => (renT (fun n => (numP (varsT t) n : Int)) p.1, p.2)) = ints (varsD (flatT t)).length := vars_ren (varsT t) (flatT t) [] ⟨[], by rw [List.append_nil, ← varsT_flat]; rfl⟩
  rw [← varsT_flat (numT t)]
  unfold numT
  rw [flatT_ren, h, varsT_flat]
theorem numT_num (t : Tm) : numT (numT t) = numT t := by
  have h1 := varsT_num t
  show renT (fun n => (numP (varsT (numT t)) n : Int)) (numT t) = numT t
  rw [h1]
  refine renT_fix _ _ fun p hp hk => ?_
  unfold numT at hp
  rw [flatT_ren] at hp
  obtain ⟨q, hq, rfl⟩ := List.mem_map.1 hp
  simp only [renT_k] at hk
  rw [renT_n _ _ hk]
  obtain ⟨D, rest, hD⟩ := List.append_of_mem hq
  have hf := place_final (D := D) (rest := rest) hk
  rw [← hD, varsT_flat] at hf
  have hlt := place_lt hf
  have hn : numP (varsT t) q.1.n = numP (varsD D) q.1.n := by
    have : numP (varsT t) q.1.n = (place (varsT t) q.1.n).getD (varsT t).length := rfl
    rw [this, hf]
    rfl
  rw [hn, numP_ints hlt]
theorem numT_size (t : Tm) : (numT t).size = t.size := renT_size _ t
theorem numT_deep (t : Tm) : (msT (numT t)).2.2 = (msT t).2.2 := by rw [msT_eq, msT_eq]; simp only [numT, renT_deep]
end Go.Proofs.Ytkhchmgdaolojaa.Tms
