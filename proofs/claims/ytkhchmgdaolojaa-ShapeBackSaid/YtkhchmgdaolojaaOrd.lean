
/-
  The order of terms, plain: an order, in which just the same terms stand with one another.
-/
import Derived.Test.YtkhchmgdaolojaaCmp
namespace Go.Proofs.Ytkhchmgdaolojaa.Tms
open Go Go.RowKit
set_option linter.unusedVariables false

/-- how three stand: p of x and y, q of y and z, r of x and z -/
def T3 (p q r : Int) : Prop := (p ≤ 0 → q ≤ 0 → r ≤ 0 ∧ (r = 0 → p = 0 ∧ q = 0)) ∧ (p = 0 → r = q) ∧ (q = 0 → r = p)
def lex (a b : Int) : Int := if a ≠ 0 then a else b
theorem lex_neg (a b : Int) : lex (-a) (-b) = -lex a b := by
  unfold lex
  by_cases h : a = 0
  · rw [if_neg (by omega), if_neg (by omega)]
  · rw [if_pos (by omega), if_pos h]
theorem lex_zero {a b : Int} : lex a b = 0 ↔ a = 0 ∧ b = 0 := by
  unfold lex
  by_cases h : a = 0
  · rw [if_neg (by omega)]; omega
  · rw [if_pos h]; omega
theorem T3.lex {p1 q1 r1 p2 q2 r2 : Int} (h : T3 p1 q1 r1) (h' : p1 = 0 → q1 = 0 → T3 p2 q2 r2) : T3 (lex p1 p2) (lex q1 q2) (lex r1 r2) := by
  obtain ⟨h1, h2, h3⟩ := h
  unfold Tms.lex
  by_cases hp : p1 = 0
  · have hr := h2 hp
    by_cases hq : q1 = 0
    · rw [if_neg (by omega), if_neg (by omega), if_neg (by omega)]
      exact h' hp hq
    · rw [if_neg (by omega), if_pos hq, if_pos (by omega)]
      unfold T3
      refine ⟨fun _ _ => ⟨by omega, by omega⟩, fun _ => by omega, fun _ => by omega⟩
  · by_cases hq : q1 = 0
    · have hr := h3 hq
      rw [if_pos hp, if_neg (by omega), if_pos (by omega)]
      unfold T3
      refine ⟨fun _ _ => ⟨by omega, by omega⟩, fun _ => by omega, fun _ => by omega⟩
    · rw [if_pos hp, if_pos hq]
      unfold T3
      refine ⟨fun hp' hq' => ?_, fun _ => by omega, fun _ => by omega⟩
      obtain ⟨h4, h5⟩ := h1 hp' hq'
      by_cases hr : r1 = 0
      · exact absurd (h5 hr).1 hp
      · rw [if_pos hr]; omega
theorem cmpI_neg (a b : Int) : cmpI a b = -cmpI b a := by unfold cmpI; repeat' split; all_goals omega
theorem cmpI_zero {a b : Int} : cmpI a b = 0 ↔ a = b := by unfold cmpI; repeat' split; all_goals omega
theorem cmpI_T3 (a b c : Int) : T3 (cmpI a b) (cmpI b c) (cmpI a c) := by
  unfold T3 cmpI
  repeat' split
  all_goals omega

theorem bytes_toList (b : ByteArray) : b.toList = b.data.toList := ByteArray.toList_eq b
theorem cmpB_cons (a b : UInt8) (al bl : List UInt8) : Lib.compareBytes (a :: al) (b :: bl) = lex (cmpI a.toNat b.toNat) (Lib.compareBytes al bl) := by
  unfold lex cmpI
  rw [Lib.compareBytes]
  by_cases h1 : a < b
  · have : (a.toNat : Int) < b.toNat := by have := UInt8.lt_iff_toNat_lt.1 h1; omega
    simp [h1, this]
  · by_cases h2 : b < a
    · have h3 : (b.toNat : Int) < a.toNat := by have := UInt8.lt_iff_toNat_lt.1 h2; omega
      have h4 : ¬ (a.toNat : Int) < b.toNat := by omega
      simp only [h1, h2, h3, h4, if_true, if_false]
      rfl
    · have h3 : ¬ (b.toNat : Int) < a.toNat := fun h => h2 (UInt8.lt_iff_toNat_lt.2 (by omega))
      have h4 : ¬ (a.toNat : Int) < b.toNat := fun h => h1 (UInt8.lt_iff_toNat_lt.2 (by omega))
      simp only [h1, h2, h3, h4, if_false]
      rfl
theorem cmpB_neg : ∀ a b : List UInt8, Lib.compareBytes a b = -Lib.compareBytes b a
  | [], [] => by rw [Lib.compareBytes]; rfl
  | [], _ :: _ => by rw [Lib.compareBytes, Lib.compareBytes]
  | _ :: _, [] => by rw [Lib.compareBytes, Lib.compareBytes]; rfl
  | a :: al, b :: bl => by rw [cmpB_cons, cmpB_cons, cmpI_neg, cmpB_neg al bl, lex_neg]
theorem cmpB_zero : ∀ {a b : List UInt8}, Lib.compareBytes a b = 0 ↔ a = b
  | [], [] => by simp [Lib.compareBytes]
  | [], _ :: _ => by simp [Lib.compareBytes]
  | _ :: _, [] => by simp [Lib.compareBytes]
  | a :: al, b :: bl => by
    rw [cmpB_cons, lex_zero, cmpI_zero, cmpB_zero, List.cons.injEq]
    constructor
    · rintro ⟨h, h'⟩
      exact ⟨UInt8.toNat_inj.1 (by omega), h'⟩
    · rintro ⟨rfl, h'⟩
      exact ⟨rfl, h'⟩
theorem cmpB_T3 : ∀ a b c : List UInt8, T3 (Lib.compareBytes a b) (Lib.compareBytes b c) (Lib.compareBytes a c)
  | [], [], [] => by simp [T3, Lib.compareBytes]
  | [], [], _ :: _ => by simp [T3, Lib.compareBytes]
  | [], _ :: _, [] => by simp [T3, Lib.compareBytes]
  | [], b :: bl, c :: cl => by
    simp only [T3, Lib.compareBytes]
    refine ⟨fun _ _ => ⟨by omega, by omega⟩, by omega, by simp⟩
  | _ :: _, [], [] => by simp [T3, Lib.compareBytes]
  | a :: al, [], c :: cl => by
    simp only [T3, Lib.compareBytes]
    refine ⟨by omega, by omega, by omega⟩
  | a :: al, b :: bl, [] => by
    simp only [T3, Lib.compareBytes]
    refine ⟨by omega, by simp, by omega⟩
  | a :: al, b :: bl, c :: cl => by
    rw [cmpB_cons, cmpB_cons, cmpB_cons]
    exact T3.lex (cmpI_T3 _ _ _) fun _ _ => cmpB_T3 al bl cl

theorem cmpHead_lex (t u : Tm) : cmpHead t u = lex (cmpI t.k u.k) (lex (cmpI t.args.length u.args.length) (lex (cmpI t.n u.n) (Lib.compareBytes t.s.data.toList u.s.data.toList))) := rfl
theorem cmpT_lex (t u : Tm) : cmpT t u = lex (cmpHead t u) (cmpL t.args u.args) := by
  obtain ⟨k, n, s, a⟩ := t
  obtain ⟨k', n', s', a'⟩ := u
  rw [cmpT]
  rfl
theorem cmpL_cons (t u : Tm) (ts us : List Tm) : cmpL (t :: ts) (u :: us) = lex (cmpT t u) (cmpL ts us) := by rw [cmpL]; rfl
theorem cmpHead_neg (t u : Tm) : cmpHead t u = -cmpHead u t := by
  rw [cmpHead_lex, cmpHead_lex, cmpI_neg t.k, cmpI_neg t.args.length, cmpI_neg t.n, cmpB_neg, lex_neg, lex_neg, lex_neg]
theorem cmpHead_T3 (x y z : Tm) : T3 (cmpHead x y) (cmpHead y z) (cmpHead x z) := by
  rw [cmpHead_lex, cmpHead_lex, cmpHead_lex]
  exact (cmpI_T3 _ _ _).lex fun _ _ => (cmpI_T3 _ _ _).lex fun _ _ => (cmpI_T3 _ _ _).lex fun _ _ => cmpB_T3 _ _ _
mutual
theorem cmpT_neg : ∀ t u : Tm, cmpT t u = -cmpT u t
  | .mk k n s a, .mk k' n' s' a' => by
    rw [cmpT_lex, cmpT_lex, cmpHead_neg, ← lex_neg]
    show lex _ (cmpL a a') = lex _ (-cmpL a' a)
    rw [cmpL_neg a a']
theorem cmpL_neg : ∀ l m : List Tm, cmpL l m = -cmpL m l
  | [], [] => by simp [cmpL]
  | [], _ :: _ => by simp [cmpL]
  | _ :: _, [] => by simp [cmpL]
  | t :: l, u :: m => by rw [cmpL_cons, cmpL_cons, cmpT_neg t u, cmpL_neg l m, lex_neg]
end
mutual
theorem cmpT_T3 : ∀ x y z : Tm, T3 (cmpT x y) (cmpT y z) (cmpT x z)
  | .mk k n s a, y, z => by
    rw [cmpT_lex, cmpT_lex, cmpT_lex]
    exact (cmpHead_T3 _ _ _).lex fun h1 h2 => cmpL_T3 a y.args z.args (cmpHead_len h1) (cmpHead_len h2)
theorem cmpL_T3 : ∀ l m n : List Tm, l.length = m.length → m.length = n.length → T3 (cmpL l m) (cmpL m n) (cmpL l n)
  | [], [], [], _, _ => by simp [cmpL, T3]
  | t :: l, u :: m, v :: n, h1, h2 => by
    rw [cmpL_cons, cmpL_cons, cmpL_cons]
    exact (cmpT_T3 t u v).lex fun _ _ => cmpL_T3 l m n (by simpa using h1) (by simpa using h2)
  | [], [], _ :: _, _, h => by simp at h
  | [], _ :: _, _, h, _ => by simp at h
  | _ :: _, [], _, h, _ => by simp at h
  | _ :: _, _ :: _, [], _, h => by simp at h
end
mutual
theorem cmpT_same : ∀ t u : Tm, cmpT t u = 0 ↔ sameT t u = true
  | .mk k n s a, .mk k' n' s' a' => by
    rw [cmpT_lex, lex_zero, cmpHead_lex, lex_zero, lex_zero, lex_zero, cmpI_zero, cmpI_zero, cmpI_zero, cmpB_zero]
    simp only [Tm.k, Tm.n, Tm.s, Tm.args, sameT, Bool.and_eq_true, beq_iff_eq]
    constructor
    · rintro ⟨⟨h1, h2, h3, h4⟩, h5⟩
      have hs : s = s' := by cases s; cases s'; congr 1; exact Array.toList_inj.1 h4
      have hl : a.length = a'.length := by omega
      exact ⟨h1, h3, by rw [hs], hl, (cmpL_same a a' hl).1 h5⟩
    · rintro ⟨h1, h2, h3, h4, h5⟩
      have hs : s.data.toList = s'.data.toList := by rw [← bytes_toList, ← bytes_toList, h3]
      exact ⟨⟨h1, by omega, h2, hs⟩, (cmpL_same a a' h4).2 h5⟩
theorem cmpL_same : ∀ l m : List Tm, l.length = m.length → (cmpL l m = 0 ↔ sameL l m = true)
  | [], [], _ => by simp [cmpL, sameL]
  | t :: l, u :: m, h => by
    rw [cmpL_cons, lex_zero, cmpT_same t u, cmpL_same l m (by simpa using h)]
    simp [sameL]
  | [], _ :: _, h => by simp at h
  | _ :: _, [], h => by simp at h
end
theorem cmpT_refl (t : Tm) : cmpT t t = 0 := by have := cmpT_neg t t; omega

def R3 (a : Int) : Prop := a = -1 ∨ a = 0 ∨ a = 1
theorem R3.lex {a b : Int} (ha : R3 a) (hb : R3 b) : R3 (lex a b) := by
  unfold Tms.lex
  split
  · exact ha
  · exact hb
theorem cmpI_range (a b : Int) : R3 (cmpI a b) := by unfold R3 cmpI; repeat' split; all_goals omega
theorem cmpB_range : ∀ a b : List UInt8, R3 (Lib.compareBytes a b)
  | [], [] => by simp [R3, Lib.compareBytes]
  | [], _ :: _ => by simp [R3, Lib.compareBytes]
  | _ :: _, [] => by simp [R3, Lib.compareBytes]
  | a :: al, b :: bl => by rw [cmpB_cons]; exact (cmpI_range _ _).lex (cmpB_range al bl)
theorem cmpHead_range (t u : Tm) : R3 (cmpHead t u) := by
  rw [cmpHead_lex]
  exact (cmpI_range _ _).lex ((cmpI_range _ _).lex ((cmpI_range _ _).lex (cmpB_range _ _)))
mutual
theorem cmpT_range : ∀ t u : Tm, R3 (cmpT t u)
  | .mk k n s a, u => by rw [cmpT_lex]; exact (cmpHead_range _ _).lex (cmpL_range a u.args)
theorem cmpL_range : ∀ l m : List Tm, R3 (cmpL l m)
  | [], [] => by simp [cmpL, R3]
  | [], _ :: _ => by simp [cmpL, R3]
  | _ :: _, [] => by simp [cmpL, R3]
  | t :: l, u :: m => by rw [cmpL_cons]; exact (cmpT_range t u).lex (cmpL_range l m)
end
end Go.Proofs.Ytkhchmgdaolojaa.Tms
