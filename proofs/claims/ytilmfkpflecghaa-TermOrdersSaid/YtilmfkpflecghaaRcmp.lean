
/-
  The reference's order of bytes, walked over the program.
-/
import Derived.Test.YtilmfkpflecghaaOrd
import Derived.Test.YtilmfkpflecghaaChn
import Derived.Test.YtilmfkpflecghaaMend
import Derived.Laws.Cover1
namespace Go.Proofs.Ytilmfkpflecghaa.Tms
open Go Go.RowKit Go.Proofs.Ytilmfkpflecghaa.Reg
set_option linter.unusedVariables false

/-- what the walk finds -/
def ordB (a b : ByteArray) : Int := if Op.bytesLess a.toList b.toList = true then -1 else if (a.toList == b.toList) = true then 0 else 1
theorem ref_order (a b : ByteArray) (w : World) : Calls Try.prog 100 #[.string a, .string b] w fun e w' => e = .returned (.int .i64 (ordB a b)) ∧ w = w' := by
  unfold ordB
  cases h1 : Op.bytesLess a.toList b.toList
  · cases h2 : (a.toList == b.toList)
    · go_enter Try.func100, Try.ntmps100
      go_wp2
      go_ret
      exact ⟨rfl, rfl⟩
    · go_enter Try.func100, Try.ntmps100
      go_wp2
      go_ret
      exact ⟨rfl, rfl⟩
  · go_enter Try.func100, Try.ntmps100
    go_wp2
    go_ret
    exact ⟨rfl, rfl⟩
theorem ord_cmp : ∀ l m : List UInt8, (if Op.bytesLess l m = true then (-1 : Int) else if (l == m) = true then 0 else 1) = Lib.compareBytes l m
  | [], [] => by simp [Op.bytesLess, Lib.compareBytes]
  | [], y :: m => by simp [Op.bytesLess, Lib.compareBytes]
  | x :: l, [] => by simp [Op.bytesLess, Lib.compareBytes]
  | x :: l, y :: m => by
    have ih := ord_cmp l m
    rw [cmpB_cons, ← ih]
    unfold lex cmpI
    simp only [Op.bytesLess]
    by_cases h : x = y
    · subst h; simp
    · have hn : x.toNat ≠ y.toNat := fun e => h (UInt8.toNat_inj.1 e)
      have hb : (x == y) = false := by simpa using h
      have hl : ((x :: l) == (y :: m)) = false := by simp [h]
      by_cases hlt : x < y
      · have h2 : ((x.toNat : Int) < (y.toNat : Int)) := by have := UInt8.lt_iff_toNat_lt.1 hlt; omega
        simp [hlt, h2]
      · have h2 : ¬ ((x.toNat : Int) < (y.toNat : Int)) := by
          intro h3
          exact hlt (UInt8.lt_iff_toNat_lt.2 (by omega))
        have h3 : ((y.toNat : Int) < (x.toNat : Int)) := by omega
        simp [hlt, h2, h3, h]
theorem ordB_cmp (a b : ByteArray) : ordB a b = Lib.compareBytes a.data.toList b.data.toList := by
  unfold ordB
  rw [bytes_toList, bytes_toList]
  exact ord_cmp _ _
mutual
/-- what the reference's Compare finds -/
def rcT : Tm → Tm → Int
  | .mk k n s a, .mk k' n' s' a' => if k ≠ k' then cmpI k k' else if k ≤ 2 then cmpI n n' else if a.length ≠ a'.length then cmpI a.length a'.length else lex (Lib.compareBytes s.data.toList s'.data.toList) (rcL a a')
def rcL : List Tm → List Tm → Int
  | t :: ts, u :: us => lex (rcT t u) (rcL ts us)
  | _, _ => 0
end
mutual
/-- numbers and variables have no parts and no word, words no number -/
def nfT : Tm → Bool
  | .mk k n s a => (if k ≤ 2 then a.length == 0 && s.data.toList == [] else n == 0) && nfL a
def nfL : List Tm → Bool
  | [] => true
  | t :: l => nfT t && nfL l
end
mutual
theorem rc_cmp : ∀ t u : Tm, nfT t = true → nfT u = true → rcT t u = cmpT t u
  | .mk k n s a, .mk k' n' s' a', h, h' => by
    rw [cmpT_lex, cmpHead_lex]
    simp only [Tm.k, Tm.n, Tm.s, Tm.args]
    simp only [nfT, Bool.and_eq_true] at h h'
    have hl := rcL_cmp a a' h.2 h'.2
    rw [rcT, hl]
    by_cases hk : k = k'
    · subst hk
      rw [if_neg (by simp), cmpI_zero.2 rfl]
      by_cases h2 : k ≤ 2
      · rw [if_pos h2] at h h' ⊢
        simp only [Bool.and_eq_true, beq_iff_eq] at h h'
        have ea := List.eq_nil_of_length_eq_zero h.1.1
        have ea' := List.eq_nil_of_length_eq_zero h'.1.1
        rw [ea, ea', h.1.2, h'.1.2]
        have z : Lib.compareBytes [] [] = 0 := cmpB_zero.2 rfl
        have z2 : cmpL [] [] = 0 := by simp [cmpL]
        have z3 : cmpI (([] : List Tm).length : Int) (([] : List Tm).length : Int) = 0 := cmpI_zero.2 rfl
        rw [z, z2, z3]
        unfold lex
        repeat' split
        all_goals omega
      · rw [if_neg h2] at h h' ⊢
        have en := of_decide_eq_true h.1
        have en' := of_decide_eq_true h'.1
        rw [en, en', cmpI_zero.2 (rfl : (0 : Int) = 0)]
        by_cases hlen : a.length = a'.length
        · rw [if_neg (by simpa using hlen), hlen, cmpI_zero.2 rfl]
          unfold lex
          repeat' split
          all_goals omega
        · rw [if_pos hlen]
          have hne : cmpI (a.length : Int) (a'.length : Int) ≠ 0 := fun e => hlen (by have := cmpI_zero.1 e; omega)
          unfold lex
          repeat' split
          all_goals omega
    · rw [if_pos hk]
      have hne : cmpI k k' ≠ 0 := fun e => hk (cmpI_zero.1 e)
      unfold lex
      repeat' split
      all_goals omega
theorem rcL_cmp : ∀ l m : List Tm, nfL l = true → nfL m = true → rcL l m = cmpL l m
  | [], m, _, _ => by cases m <;> simp [rcL, cmpL]
  | t :: ts, [], _, _ => by simp [rcL, cmpL]
  | t :: ts, u :: us, h, h' => by
    simp only [nfL, Bool.and_eq_true] at h h'
    rw [rcL, cmpL_cons, rc_cmp t u h.1 h'.1, rcL_cmp ts us h.2 h'.2]
end
mutual
theorem mend_nf : ∀ t : Tm, nfT (mendT t) = true
  | .mk k n s a => by
    have hl := mendL_nf a
    unfold mendT
    repeat' split
    all_goals simp [nfT, nfL, atomA, atomT, hl]
theorem mendL_nf : ∀ l : List Tm, nfL (mendL l) = true
  | [] => by simp [mendL, nfL]
  | t :: l => by simp [mendL, nfL, mend_nf t, mendL_nf l]
end
theorem lex_assoc (a b c : Int) : lex (lex a b) c = lex a (lex b c) := by
  unfold lex
  repeat' split
  all_goals omega
theorem rcL_take : ∀ (a b : List Tm) (k : Nat) (ha : k < a.length) (hb : k < b.length), rcL (a.take (k + 1)) (b.take (k + 1)) = lex (rcL (a.take k) (b.take k)) (rcT a[k] b[k])
  | t :: ts, u :: us, 0, _, _ => by
    simp [rcL, lex]
    intro h
    exact h.symm
  | t :: ts, u :: us, k + 1, ha, hb => by
    simp only [List.take_succ_cons, rcL, List.getElem_cons_succ]
    rw [rcL_take ts us k (by simpa using ha) (by simpa using hb), lex_assoc]
theorem rcL_stop : ∀ (a b : List Tm) (k : Nat), rcL (a.take k) (b.take k) ≠ 0 → rcL a b = rcL (a.take k) (b.take k)
  | [], b, k, h => by simp [rcL] at h
  | t :: ts, [], k, h => by simp [rcL] at h
  | t :: ts, u :: us, 0, h => by simp [rcL] at h
  | t :: ts, u :: us, k + 1, h => by
    simp only [List.take_succ_cons, rcL] at h ⊢
    by_cases h0 : rcT t u = 0
    · have h1 : rcL (ts.take k) (us.take k) ≠ 0 := fun e => h (by rw [h0, e]; simp [lex])
      rw [rcL_stop ts us k h1]
    · simp [lex, h0]
theorem good_nf (L : List Pt) : nfT (goodT L) = true := mend_nf _
end Go.Proofs.Ytilmfkpflecghaa.Tms
