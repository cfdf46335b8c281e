
/-
  FaultApart, the plain law: what is made good may be; errors of unlike numbers are unlike terms; an error's term may be.
-/
import Derived.Test.YtokhiolimioicaaTmP
import Derived.Test.YtokhiolimioicaaFltL0
namespace Go.Proofs.Ytokhiolimioicaa.Tms
open Go Go.RowKit
set_option linter.unusedVariables false

mutual
def arT : Tm → Bool
  | .mk _ _ _ a => decide (a.length ≤ 7) && arL a
def arL : List Tm → Bool
  | [] => true
  | t :: l => arT t && arL l
end
theorem arL_app : ∀ l m, arL (l ++ m) = (arL l && arL m)
  | [], m => by simp [arL]
  | t :: l, m => by simp [arL, arL_app l m, Bool.and_assoc]
theorem ofTo_ar {g : List Pt → Tm × Nat} (hg : ∀ l, arT (g l).1 = true) (l : List Pt) : ∀ k, arL (ofTo g l k).1 = true
  | 0 => by simp [ofTo, arL]
  | k + 1 => by simp [ofTo, arL_app, arL, ofTo_ar hg l k, hg]
theorem ofN_ar : ∀ (f : Nat) (l : List Pt), arT (ofN f l).1 = true
  | 0, l => by simp [ofN, atomA, atomT, arT, arL]
  | f + 1, [] => by simp [ofN, atomA, atomT, arT, arL]
  | f + 1, p :: l => by
    simp only [ofN, arT, ofTo_len, ofTo_ar (ofN_ar f), Bool.and_true, decide_eq_true_eq]
    omega
theorem atomA_may : mayT atomA = true := by decide +kernel
theorem empty_bytes {s : ByteArray} (h : s.size = 0) : s.toList.isEmpty = true := by
  have : s = ⟨#[]⟩ := by
    obtain ⟨⟨l⟩⟩ := s
    cases l with
    | nil => rfl
    | cons x l => simp [ByteArray.size] at h
  subst this
  decide +kernel
theorem nil_empty : ((⟨#[]⟩ : ByteArray).toList.isEmpty) = true := empty_bytes rfl
mutual
theorem mend_may : ∀ t : Tm, arT t = true → mayT (mendT t) = true
  | .mk k n s a, h => by
    simp only [arT, Bool.and_eq_true, decide_eq_true_eq] at h
    have hl := mendL_may a h.2
    unfold mendT
    by_cases h1 : 20 < s.size
    · rw [if_pos h1]; exact atomA_may
    rw [if_neg h1]
    by_cases k1 : k = 1
    · rw [if_pos k1]
      have : (0 : Int) ≤ max 0 n := by omega
      simp [mayT, mayTL, mayB, this]
    rw [if_neg k1]
    by_cases k2 : k = 2
    · rw [if_pos k2]; simp [mayT, mayTL, mayB]
    rw [if_neg k2]
    by_cases k3 : k = 3
    · rw [if_pos k3]
      have : s.size ≤ 1000 := by omega
      simp [mayT, mayTL, mayB, this]
    rw [if_neg k3]
    by_cases k4 : k = 4
    · rw [if_pos k4]
      by_cases ha : a.length = 0
      · rw [if_pos ha]; exact atomA_may
      rw [if_neg ha]
      have h2 : (mendL a).length = a.length := by rw [mendL_map]; simp
      have h3 : s.size ≤ 1000 := by omega
      have h4 : 1 ≤ a.length := by omega
      have h5 : a.length ≤ 255 := by omega
      simp only [mayT, hl, Bool.and_true, h2]
      simp [mayB, h3, h4, h5]
    · rw [if_neg k4]; exact atomA_may
theorem mendL_may : ∀ l : List Tm, arL l = true → mayTL (mendL l) = true
  | [], _ => by simp [mendL, mayTL]
  | t :: l, h => by
    simp only [arL, Bool.and_eq_true] at h
    simp [mendL, mayTL, mend_may t h.1, mendL_may l h.2]
end
theorem good_may (L : List Pt) : mayT (goodT L) = true := mend_may _ (ofN_ar _ _)

/-- the numbers that have a word -/
def ownE : List Int := [12, 13, 14, 8, 11, 10, 3]
theorem atom_may {s : ByteArray} (h : s.size ≤ 1000) : mayT (atomT s) = true := by simp [atomT, mayT, mayTL, mayB, h]
theorem comp_may {s : ByteArray} {l : List Tm} (h : s.size ≤ 1000) (h1 : l ≠ []) (h2 : l.length ≤ 255) (hl : mayTL l = true) : mayT (compT s l) = true := by
  have h3 : 1 ≤ l.length := by cases l; exact absurd rfl h1; simp
  simp [compT, mayT, hl, mayB, h]
  omega
theorem int_may (n : Int) : mayT (intT n) = true := by simp [intT, mayT, mayTL, mayB]
theorem ind_may {s : ByteArray} (n : Int) (h : s.size ≤ 1000) : mayT (indT s n) = true := comp_may (by decide +kernel) (by simp) (by simp) (by simp [mayTL, atom_may h, int_may])
theorem formal_may (e : Int) {s : ByteArray} {t : Tm} (h : s.size ≤ 1000) (ht : mayT t = true) : mayT (formalE e s t) = true ∧ (formalE e s t).size ≤ t.size + 2 := by
  have ha := atom_may h
  unfold formalE
  have two : ∀ n : ByteArray, n.size ≤ 1000 → mayT (compT n [atomT s, t]) = true ∧ (compT n [atomT s, t]).size ≤ t.size + 2 := fun n hn =>
    ⟨comp_may hn (by simp) (by simp) (by simp [mayTL, ha, ht]), by simp only [compT, atomT, Tm.size, sizeL]; omega⟩
  have one : ∀ n f : ByteArray, n.size ≤ 1000 → f.size ≤ 1000 → mayT (compT n [atomT f]) = true ∧ (compT n [atomT f]).size ≤ t.size + 2 := fun n f hn hf =>
    ⟨comp_may hn (by simp) (by simp) (by simp [mayTL, atom_may hf]), by simp only [compT, atomT, Tm.size, sizeL]; omega⟩
  have bare : ∀ n : ByteArray, n.size ≤ 1000 → mayT (atomT n) = true ∧ (atomT n).size ≤ t.size + 2 := fun n hn => ⟨atom_may hn, by simp only [atomT, Tm.size, sizeL]; omega⟩
  split
  · exact bare _ (by decide +kernel)
  split
  · exact two _ (by decide +kernel)
  split
  · exact two _ (by decide +kernel)
  split
  · exact two _ (by decide +kernel)
  split
  · exact one _ _ (by decide +kernel) (by decide +kernel)
  split
  · exact one _ _ (by decide +kernel) (by decide +kernel)
  split
  · exact one _ _ (by decide +kernel) h
  · exact bare _ (by decide +kernel)
theorem apart_check (e : Int) (s : ByteArray) (L : List Pt) (n : Int) (hs : s.size ≤ 500) (hL : L.length ≤ 60) : checkT (errorT (formalE e s (goodT L)) s n) = 0 := by
  obtain ⟨h1, h2⟩ := formal_may e (s := s) (t := goodT L) (by omega) (good_may L)
  have h3 := goodT_size L
  have h4 : mayT (errorT (formalE e s (goodT L)) s n) = true := comp_may (by decide +kernel) (by simp) (by simp) (by simp [mayTL, h1, ind_may n (s := s) (by omega)])
  have h5 : (errorT (formalE e s (goodT L)) s n).size ≤ 500 := by
    have : (errorT (formalE e s (goodT L)) s n).size = (formalE e s (goodT L)).size + 4 := by simp [errorT, compT, indT, atomT, intT, Tm.size, sizeL]
    omega
  have h6 := deep_le (errorT (formalE e s (goodT L)) s n)
  rw [checkT_eq, h4, if_neg (by simp), if_neg (by omega), if_neg (by omega)]
theorem cmp_head_ne {t u : Tm} (h : cmpHead t u ≠ 0) : cmpT t u ≠ 0 := by
  obtain ⟨k, n, s, a⟩ := t
  obtain ⟨k', n', s', a'⟩ := u
  rw [cmpT, if_pos h]
  exact h
theorem head_cc (A B : ByteArray) (l m : List Tm) (h : l.length = m.length) (hc : cmpHead (compT A []) (compT B []) ≠ 0) : cmpHead (compT A l) (compT B m) ≠ 0 := by
  have e : cmpHead (compT A l) (compT B m) = cmpHead (compT A []) (compT B []) := by
    simp [cmpHead, compT, Tm.k, Tm.n, Tm.s, Tm.args, h, cmpI]
  rw [e]; exact hc
theorem head_len (A B : ByteArray) (l m : List Tm) (h : l.length ≠ m.length) : cmpHead (compT A l) (compT B m) ≠ 0 := fun e => h (cmpHead_len e)
theorem head_ca (A B : ByteArray) (l : List Tm) : cmpHead (compT A l) (atomT B) ≠ 0 := by
  simp [cmpHead, compT, atomT, Tm.k, cmpI]
theorem apart_cmp (s : ByteArray) (t : Tm) : ∀ i j : Nat, i < 7 → j < i → cmpT (formalE (ownE.getD i 0) s t) (formalE (ownE.getD j 0) s t) ≠ 0
  | 1, 0, _, _ => show cmpT (compT (⟨#[116, 121, 112, 101, 95, 101, 114, 114, 111, 114]⟩ : ByteArray) [atomT s, t]) (atomT (⟨#[105, 110, 115, 116, 97, 110, 116, 105, 97, 116, 105, 111, 110, 95, 101, 114, 114, 111, 114]⟩ : ByteArray)) ≠ 0 from cmp_head_ne (head_ca _ _ _)
  | 2, 0, _, _ => show cmpT (compT (⟨#[100, 111, 109, 97, 105, 110, 95, 101, 114, 114, 111, 114]⟩ : ByteArray) [atomT s, t]) (atomT (⟨#[105, 110, 115, 116, 97, 110, 116, 105, 97, 116, 105, 111, 110, 95, 101, 114, 114, 111, 114]⟩ : ByteArray)) ≠ 0 from cmp_head_ne (head_ca _ _ _)
  | 2, 1, _, _ => show cmpT (compT (⟨#[100, 111, 109, 97, 105, 110, 95, 101, 114, 114, 111, 114]⟩ : ByteArray) [atomT s, t]) (compT (⟨#[116, 121, 112, 101, 95, 101, 114, 114, 111, 114]⟩ : ByteArray) [atomT s, t]) ≠ 0 from cmp_head_ne (head_cc _ _ _ _ rfl (by decide +kernel))
  | 3, 0, _, _ => show cmpT (compT (⟨#[101, 120, 105, 115, 116, 101, 110, 99, 101, 95, 101, 114, 114, 111, 114]⟩ : ByteArray) [atomT s, t]) (atomT (⟨#[105, 110, 115, 116, 97, 110, 116, 105, 97, 116, 105, 111, 110, 95, 101, 114, 114, 111, 114]⟩ : ByteArray)) ≠ 0 from cmp_head_ne (head_ca _ _ _)
  | 3, 1, _, _ => show cmpT (compT (⟨#[101, 120, 105, 115, 116, 101, 110, 99, 101, 95, 101, 114, 114, 111, 114]⟩ : ByteArray) [atomT s, t]) (compT (⟨#[116, 121, 112, 101, 95, 101, 114, 114, 111, 114]⟩ : ByteArray) [atomT s, t]) ≠ 0 from cmp_head_ne (head_cc _ _ _ _ rfl (by decide +kernel))
  | 3, 2, _, _ => show cmpT (compT (⟨#[101, 120, 105, 115, 116, 101, 110, 99, 101, 95, 101, 114, 114, 111, 114]⟩ : ByteArray) [atomT s, t]) (compT (⟨#[100, 111, 109, 97, 105, 110, 95, 101, 114, 114, 111, 114]⟩ : ByteArray) [atomT s, t]) ≠ 0 from cmp_head_ne (head_cc _ _ _ _ rfl (by decide +kernel))
  | 4, 0, _, _ => show cmpT (compT (⟨#[101, 118, 97, 108, 117, 97, 116, 105, 111, 110, 95, 101, 114, 114, 111, 114]⟩ : ByteArray) [atomT (⟨#[105, 110, 116, 95, 111, 118, 101, 114, 102, 108, 111, 119]⟩ : ByteArray)]) (atomT (⟨#[105, 110, 115, 116, 97, 110, 116, 105, 97, 116, 105, 111, 110, 95, 101, 114, 114, 111, 114]⟩ : ByteArray)) ≠ 0 from cmp_head_ne (head_ca _ _ _)
  | 4, 1, _, _ => show cmpT (compT (⟨#[101, 118, 97, 108, 117, 97, 116, 105, 111, 110, 95, 101, 114, 114, 111, 114]⟩ : ByteArray) [atomT (⟨#[105, 110, 116, 95, 111, 118, 101, 114, 102, 108, 111, 119]⟩ : ByteArray)]) (compT (⟨#[116, 121, 112, 101, 95, 101, 114, 114, 111, 114]⟩ : ByteArray) [atomT s, t]) ≠ 0 from cmp_head_ne (head_len _ _ _ _ (by simp))
  | 4, 2, _, _ => show cmpT (compT (⟨#[101, 118, 97, 108, 117, 97, 116, 105, 111, 110, 95, 101, 114, 114, 111, 114]⟩ : ByteArray) [atomT (⟨#[105, 110, 116, 95, 111, 118, 101, 114, 102, 108, 111, 119]⟩ : ByteArray)]) (compT (⟨#[100, 111, 109, 97, 105, 110, 95, 101, 114, 114, 111, 114]⟩ : ByteArray) [atomT s, t]) ≠ 0 from cmp_head_ne (head_len _ _ _ _ (by simp))
  | 4, 3, _, _ => show cmpT (compT (⟨#[101, 118, 97, 108, 117, 97, 116, 105, 111, 110, 95, 101, 114, 114, 111, 114]⟩ : ByteArray) [atomT (⟨#[105, 110, 116, 95, 111, 118, 101, 114, 102, 108, 111, 119]⟩ : ByteArray)]) (compT (⟨#[101, 120, 105, 115, 116, 101, 110, 99, 101, 95, 101, 114, 114, 111, 114]⟩ : ByteArray) [atomT s, t]) ≠ 0 from cmp_head_ne (head_len _ _ _ _ (by simp))
  | 5, 0, _, _ => show cmpT (compT (⟨#[101, 118, 97, 108, 117, 97, 116, 105, 111, 110, 95, 101, 114, 114, 111, 114]⟩ : ByteArray) [atomT (⟨#[122, 101, 114, 111, 95, 100, 105, 118, 105, 115, 111, 114]⟩ : ByteArray)]) (atomT (⟨#[105, 110, 115, 116, 97, 110, 116, 105, 97, 116, 105, 111, 110, 95, 101, 114, 114, 111, 114]⟩ : ByteArray)) ≠ 0 from cmp_head_ne (head_ca _ _ _)
  | 5, 1, _, _ => show cmpT (compT (⟨#[101, 118, 97, 108, 117, 97, 116, 105, 111, 110, 95, 101, 114, 114, 111, 114]⟩ : ByteArray) [atomT (⟨#[122, 101, 114, 111, 95, 100, 105, 118, 105, 115, 111, 114]⟩ : ByteArray)]) (compT (⟨#[116, 121, 112, 101, 95, 101, 114, 114, 111, 114]⟩ : ByteArray) [atomT s, t]) ≠ 0 from cmp_head_ne (head_len _ _ _ _ (by simp))
  | 5, 2, _, _ => show cmpT (compT (⟨#[101, 118, 97, 108, 117, 97, 116, 105, 111, 110, 95, 101, 114, 114, 111, 114]⟩ : ByteArray) [atomT (⟨#[122, 101, 114, 111, 95, 100, 105, 118, 105, 115, 111, 114]⟩ : ByteArray)]) (compT (⟨#[100, 111, 109, 97, 105, 110, 95, 101, 114, 114, 111, 114]⟩ : ByteArray) [atomT s, t]) ≠ 0 from cmp_head_ne (head_len _ _ _ _ (by simp))
  | 5, 3, _, _ => show cmpT (compT (⟨#[101, 118, 97, 108, 117, 97, 116, 105, 111, 110, 95, 101, 114, 114, 111, 114]⟩ : ByteArray) [atomT (⟨#[122, 101, 114, 111, 95, 100, 105, 118, 105, 115, 111, 114]⟩ : ByteArray)]) (compT (⟨#[101, 120, 105, 115, 116, 101, 110, 99, 101, 95, 101, 114, 114, 111, 114]⟩ : ByteArray) [atomT s, t]) ≠ 0 from cmp_head_ne (head_len _ _ _ _ (by simp))
  | 5, 4, _, _ => show cmpT (compT (⟨#[101, 118, 97, 108, 117, 97, 116, 105, 111, 110, 95, 101, 114, 114, 111, 114]⟩ : ByteArray) [atomT (⟨#[122, 101, 114, 111, 95, 100, 105, 118, 105, 115, 111, 114]⟩ : ByteArray)]) (compT (⟨#[101, 118, 97, 108, 117, 97, 116, 105, 111, 110, 95, 101, 114, 114, 111, 114]⟩ : ByteArray) [atomT (⟨#[105, 110, 116, 95, 111, 118, 101, 114, 102, 108, 111, 119]⟩ : ByteArray)]) ≠ 0 from (by decide +kernel : cmpT (compT (⟨#[101, 118, 97, 108, 117, 97, 116, 105, 111, 110, 95, 101, 114, 114, 111, 114]⟩ : ByteArray) [atomT (⟨#[122, 101, 114, 111, 95, 100, 105, 118, 105, 115, 111, 114]⟩ : ByteArray)]) (compT (⟨#[101, 118, 97, 108, 117, 97, 116, 105, 111, 110, 95, 101, 114, 114, 111, 114]⟩ : ByteArray) [atomT (⟨#[105, 110, 116, 95, 111, 118, 101, 114, 102, 108, 111, 119]⟩ : ByteArray)]) ≠ 0)
  | 6, 0, _, _ => show cmpT (compT (⟨#[114, 101, 112, 114, 101, 115, 101, 110, 116, 97, 116, 105, 111, 110, 95, 101, 114, 114, 111, 114]⟩ : ByteArray) [atomT s]) (atomT (⟨#[105, 110, 115, 116, 97, 110, 116, 105, 97, 116, 105, 111, 110, 95, 101, 114, 114, 111, 114]⟩ : ByteArray)) ≠ 0 from cmp_head_ne (head_ca _ _ _)
  | 6, 1, _, _ => show cmpT (compT (⟨#[114, 101, 112, 114, 101, 115, 101, 110, 116, 97, 116, 105, 111, 110, 95, 101, 114, 114, 111, 114]⟩ : ByteArray) [atomT s]) (compT (⟨#[116, 121, 112, 101, 95, 101, 114, 114, 111, 114]⟩ : ByteArray) [atomT s, t]) ≠ 0 from cmp_head_ne (head_len _ _ _ _ (by simp))
  | 6, 2, _, _ => show cmpT (compT (⟨#[114, 101, 112, 114, 101, 115, 101, 110, 116, 97, 116, 105, 111, 110, 95, 101, 114, 114, 111, 114]⟩ : ByteArray) [atomT s]) (compT (⟨#[100, 111, 109, 97, 105, 110, 95, 101, 114, 114, 111, 114]⟩ : ByteArray) [atomT s, t]) ≠ 0 from cmp_head_ne (head_len _ _ _ _ (by simp))
  | 6, 3, _, _ => show cmpT (compT (⟨#[114, 101, 112, 114, 101, 115, 101, 110, 116, 97, 116, 105, 111, 110, 95, 101, 114, 114, 111, 114]⟩ : ByteArray) [atomT s]) (compT (⟨#[101, 120, 105, 115, 116, 101, 110, 99, 101, 95, 101, 114, 114, 111, 114]⟩ : ByteArray) [atomT s, t]) ≠ 0 from cmp_head_ne (head_len _ _ _ _ (by simp))
  | 6, 4, _, _ => show cmpT (compT (⟨#[114, 101, 112, 114, 101, 115, 101, 110, 116, 97, 116, 105, 111, 110, 95, 101, 114, 114, 111, 114]⟩ : ByteArray) [atomT s]) (compT (⟨#[101, 118, 97, 108, 117, 97, 116, 105, 111, 110, 95, 101, 114, 114, 111, 114]⟩ : ByteArray) [atomT (⟨#[105, 110, 116, 95, 111, 118, 101, 114, 102, 108, 111, 119]⟩ : ByteArray)]) ≠ 0 from cmp_head_ne (head_cc _ _ _ _ rfl (by decide +kernel))
  | 6, 5, _, _ => show cmpT (compT (⟨#[114, 101, 112, 114, 101, 115, 101, 110, 116, 97, 116, 105, 111, 110, 95, 101, 114, 114, 111, 114]⟩ : ByteArray) [atomT s]) (compT (⟨#[101, 118, 97, 108, 117, 97, 116, 105, 111, 110, 95, 101, 114, 114, 111, 114]⟩ : ByteArray) [atomT (⟨#[122, 101, 114, 111, 95, 100, 105, 118, 105, 115, 111, 114]⟩ : ByteArray)]) ≠ 0 from cmp_head_ne (head_cc _ _ _ _ rfl (by decide +kernel))
  | i + 7, _, h, _ => absurd h (by omega)
  | 0, j + 0, _, h => absurd h (by omega)
  | 1, j + 1, _, h => absurd h (by omega)
  | 2, j + 2, _, h => absurd h (by omega)
  | 3, j + 3, _, h => absurd h (by omega)
  | 4, j + 4, _, h => absurd h (by omega)
  | 5, j + 5, _, h => absurd h (by omega)
  | 6, j + 6, _, h => absurd h (by omega)
end Go.Proofs.Ytokhiolimioicaa.Tms
