
/-
  Layer 19, plain: a clause whose variables have other numbers comes to the same code. No program stands here.
-/
import Derived.Test.YtibjcfbilkkmkaaCpl
import Derived.Test.YtibjcfbilkkmkaaRnm
namespace Go.Proofs.Ytibjcfbilkkmkaa.Tms
open Go Go.RowKit Go.Proofs.Ytibjcfbilkkmkaa.Cod
set_option linter.unusedVariables false

theorem turnN_ge {y n : Int} (hy : 0 ≤ y) (hn : 0 ≤ n) : 0 ≤ turnN y n := by
  unfold turnN
  rw [Int.tdiv_eq_ediv_of_nonneg hn]
  omega
mutual
theorem occT_ren (φ : Int → Int) : ∀ t : Tm, occT (renT φ t) = (occT t).map φ
  | .mk k n s a => by
    have h := occL_ren φ a
    by_cases k1 : k = 1
    · simp [renT, occT, k1, h]
    · simp [renT, occT, k1, h]
theorem occL_ren (φ : Int → Int) : ∀ l : List Tm, occL (renL φ l) = (occL l).map φ
  | [] => by simp [renL, occL]
  | t :: l => by simp [renL, occL, occT_ren φ t, occL_ren φ l]
end
mutual
theorem occT_ge : ∀ t : Tm, mayT t = true → ∀ n ∈ occT t, 0 ≤ n
  | .mk k n s a, h, m, hm => by
    simp only [mayT, Bool.and_eq_true] at h
    by_cases k1 : k = 1
    · subst k1
      simp only [occT, if_true, List.mem_cons] at hm
      rcases hm with rfl | hm
      · have := h.1; simp only [mayB, if_true, Bool.and_eq_true] at this; simpa using this.1
      · exact occL_ge a h.2 m hm
    · simp only [occT, if_neg k1] at hm
      exact occL_ge a h.2 m hm
theorem occL_ge : ∀ l : List Tm, mayTL l = true → ∀ n ∈ occL l, 0 ≤ n
  | [], _, m, hm => by simp [occL] at hm
  | t :: l, h, m, hm => by
    simp only [mayTL, Bool.and_eq_true] at h
    simp only [occL, List.mem_append] at hm
    rcases hm with hm | hm
    · exact occT_ge t h.1 m hm
    · exact occL_ge l h.2 m hm
end
mutual
theorem mayT_ren (φ : Int → Int) (hφ : ∀ n, 0 ≤ n → 0 ≤ φ n) : ∀ t : Tm, mayT t = true → mayT (renT φ t) = true
  | .mk k n s a, h => by
    simp only [mayT, Bool.and_eq_true] at h
    have ha := mayTL_ren φ hφ a h.2
    simp only [renT, mayT, Bool.and_eq_true, renL_len]
    refine ⟨?_, ha⟩
    by_cases k1 : k = 1
    · subst k1
      have := h.1
      simp only [mayB, if_true, Bool.and_eq_true] at this ⊢
      exact ⟨by simpa using hφ n (by simpa using this.1), this.2⟩
    · simp only [if_neg k1]; exact h.1
theorem mayTL_ren (φ : Int → Int) (hφ : ∀ n, 0 ≤ n → 0 ≤ φ n) : ∀ l : List Tm, mayTL l = true → mayTL (renL φ l) = true
  | [], _ => by simp [renL, mayTL]
  | t :: l, h => by
    simp only [mayTL, Bool.and_eq_true] at h
    simp only [renL, mayTL, Bool.and_eq_true]
    exact ⟨mayT_ren φ hφ t h.1, mayTL_ren φ hφ l h.2⟩
end
theorem count_map {φ : Int → Int} {n : Int} : ∀ (D : List Int), (∀ m ∈ D, φ m = φ n → m = n) → (D.map φ).count (φ n) = D.count n
  | [], _ => rfl
  | m :: D, h => by
    have ih := count_map D fun x hx => h x (List.mem_cons_of_mem _ hx)
    rw [List.map_cons, List.count_cons, List.count_cons, ih]
    by_cases e : m = n
    · simp [e]
    · have e2 : ¬ φ m = φ n := fun e' => e (h m (by simp) e')
      rw [if_neg (by simpa using e2), if_neg (by simpa using e)]
theorem checkT_ren (φ : Int → Int) (hφ : ∀ n, 0 ≤ n → 0 ≤ φ n) (t : Tm) (h : mayT t = true) : checkT (renT φ t) = checkT t := by
  rw [checkT_eq, checkT_eq, renT_deep, renT_size, mayT_ren φ hφ t h, h]
theorem renT_parts (φ : Int → Int) (t : Tm) : (renT φ t).s = t.s ∧ (renT φ t).args = renL φ t.args := by
  obtain ⟨k, n, s, a⟩ := t
  by_cases k1 : k = 1 <;> simp [renT, k1, Tm.s, Tm.args]
theorem occ_args {t : Tm} : ∀ n ∈ occL t.args, n ∈ occT t := by
  obtain ⟨k, n, s, a⟩ := t
  intro m hm
  simp only [Tm.args] at hm
  by_cases k1 : k = 1
  · simp [occT, k1, hm]
  · simp [occT, k1, hm]
theorem compE_ren {y : Int} (hy : 0 ≤ y) (h b : Tm) (m1 : mayT h = true) (m2 : mayT b = true) : compE (renT (turnN y) h) (renT (turnN y) b) = compE h b := by
  have hφ : ∀ n, 0 ≤ n → 0 ≤ turnN y n := fun n hn => turnN_ge hy hn
  have g1 := occT_ge h m1
  have g2 := occT_ge b m2
  have hD : occT (renT (turnN y) h) ++ occT (renT (turnN y) b) = (occT h ++ occT b).map (turnN y) := by rw [occT_ren, occT_ren, List.map_append]
  have hV : ∀ x x' : Int, 0 ≤ x → 0 ≤ x' → turnN y x = turnN y x' → x = x' := fun x x' a b e => turnN_one a b e
  have hone : ∀ n, 0 ≤ n → oneB ((occT h ++ occT b).map (turnN y)) (turnN y n) = oneB (occT h ++ occT b) n := fun n hn => by
    unfold oneB
    rw [count_map _ fun m hm e => hV m n (by rcases List.mem_append.1 hm with h | h; exact g1 m h; exact g2 m h) hn e]
  have hc : compC (renT (turnN y) h) (renT (turnN y) b) = compC h b := by
    obtain ⟨hs, ha⟩ := renT_parts (turnN y) h
    have hl := patL_ren (φ := turnN y) (V := fun n => 0 ≤ n) (one := oneB (occT h ++ occT b)) (one' := oneB ((occT h ++ occT b).map (turnN y))) hV hone h.args [] (by simp) (fun n hn => g1 n (occ_args n hn))
    have ht := patT_ren (φ := turnN y) (V := fun n => 0 ≤ n) (one := oneB (occT h ++ occT b)) (one' := oneB ((occT h ++ occT b).map (turnN y))) hV hone b _ hl.2 (fun n hn => g2 n hn)
    have hl1 := hl.1
    rw [List.map_nil] at hl1
    unfold compC
    rw [hD, hs, ha, renL_len, hl1]
    simp only
    rw [ht.1]
    simp
  unfold compE
  rw [checkT_ren _ hφ h m1, checkT_ren _ hφ b m2, renT_k, renT_size, renT_size, hc]
end Go.Proofs.Ytibjcfbilkkmkaa.Tms
