
/-
  term.compare of the program (two parts, but for their Args), walked; cmp.Compare of numbers.
-/
import Derived.Test.YtmlceamcpelklaaShl
import Derived.Test.YtmlceamcpelklaaSame
namespace Go.Proofs.Ytmlceamcpelklaa.Tms
open Go Go.RowKit

def cmpI (a b : Int) : Int := if a < b then -1 else if b < a then 1 else 0

theorem nan_int (x : Int) (w : World) : Calls Try.prog 123 #[.int .i64 x] w fun e w' => e = .returned (.bool false) ∧ w = w' := by
  have hx : (x != x) = false := by simp
  go_enter Try.func123, Try.ntmps123
  go_wp2
  go_ret
  exact ⟨rfl, rfl⟩
theorem nan_int64 (x : Int) (w : World) : Calls Try.prog 124 #[.int .i64 x] w fun e w' => e = .returned (.bool false) ∧ w = w' := by
  have hx : (x != x) = false := by simp
  go_enter Try.func124, Try.ntmps124
  go_wp2
  go_ret
  exact ⟨rfl, rfl⟩
theorem cmp_int (a b : Int) (w : World) : Calls Try.prog 114 #[.int .i64 a, .int .i64 b] w fun e w' => e = .returned (.int .i64 (cmpI a b)) ∧ w = w' := by
  have go : ∀ c, cmpI a b = c → Calls Try.prog 114 #[.int .i64 a, .int .i64 b] w fun e w' => e = .returned (.int .i64 c) ∧ w = w' := by
    intro c hc
    by_cases h1 : a < b
    · have : c = -1 := by rw [← hc]; simp [cmpI, h1]
      subst this
      clear hc
      go_enter Try.func114, Try.ntmps114
      go_wp2_with (go_at_call 123; refine (nan_int _ _).mono ?_; rintro e w' ⟨rfl, rfl⟩)
      go_ret
      exact ⟨rfl, rfl⟩
    by_cases h2 : b < a
    · have : c = 1 := by rw [← hc]; simp [cmpI, h1, h2]
      subst this
      clear hc
      go_enter Try.func114, Try.ntmps114
      go_wp2_with (go_at_call 123; refine (nan_int _ _).mono ?_; rintro e w' ⟨rfl, rfl⟩)
      go_ret
      exact ⟨rfl, rfl⟩
    · have : c = 0 := by rw [← hc]; simp [cmpI, h1, h2]
      subst this
      clear hc
      go_enter Try.func114, Try.ntmps114
      go_wp2_with (go_at_call 123; refine (nan_int _ _).mono ?_; rintro e w' ⟨rfl, rfl⟩)
      go_ret
      exact ⟨rfl, rfl⟩
  exact go _ rfl
theorem cmp_int64 (a b : Int) (w : World) : Calls Try.prog 115 #[.int .i64 a, .int .i64 b] w fun e w' => e = .returned (.int .i64 (cmpI a b)) ∧ w = w' := by
  have go : ∀ c, cmpI a b = c → Calls Try.prog 115 #[.int .i64 a, .int .i64 b] w fun e w' => e = .returned (.int .i64 c) ∧ w = w' := by
    intro c hc
    by_cases h1 : a < b
    · have : c = -1 := by rw [← hc]; simp [cmpI, h1]
      subst this
      clear hc
      go_enter Try.func115, Try.ntmps115
      go_wp2_with (go_at_call 124; refine (nan_int64 _ _).mono ?_; rintro e w' ⟨rfl, rfl⟩)
      go_ret
      exact ⟨rfl, rfl⟩
    by_cases h2 : b < a
    · have : c = 1 := by rw [← hc]; simp [cmpI, h1, h2]
      subst this
      clear hc
      go_enter Try.func115, Try.ntmps115
      go_wp2_with (go_at_call 124; refine (nan_int64 _ _).mono ?_; rintro e w' ⟨rfl, rfl⟩)
      go_ret
      exact ⟨rfl, rfl⟩
    · have : c = 0 := by rw [← hc]; simp [cmpI, h1, h2]
      subst this
      clear hc
      go_enter Try.func115, Try.ntmps115
      go_wp2_with (go_at_call 124; refine (nan_int64 _ _).mono ?_; rintro e w' ⟨rfl, rfl⟩)
      go_ret
      exact ⟨rfl, rfl⟩
  exact go _ rfl
/-- two parts, but for their Args -/
def cmpHead (a b : Tm) : Int :=
  if cmpI a.k b.k ≠ 0 then cmpI a.k b.k else if cmpI a.args.length b.args.length ≠ 0 then cmpI a.args.length b.args.length else if cmpI a.n b.n ≠ 0 then cmpI a.n b.n else Lib.compareBytes a.s.data.toList b.s.data.toList

set_option maxHeartbeats 1600000 in
theorem tm_compare (t u : Tm) (v v' : Value) (P P' : Nat → Prop) (w : World) (h : IsTm w P v t) (h' : IsTm w P' v' u) :
    Calls Try.prog 99 #[v, v'] w fun e w' => e = .returned (.int .i64 (cmpHead t u)) ∧ Below w.heap.size w w' := by
  obtain ⟨a, c, rfl⟩ := h.form
  obtain ⟨a', c', rfl⟩ := h'.form
  clear h h'
  obtain ⟨-, -, -, tbl⟩ := two w (.cells #[.int .i64 t.k, .int .i64 t.n, .string t.s, .slice a t.args.length c] 27) (.cells #[.int .i64 u.k, .int .i64 u.n, .string u.s, .slice a' u.args.length c'] 27)
  have TB := Lib.hid tbl
  clear tbl
  have go : ∀ r, cmpHead t u = r → Calls Try.prog 99 #[.agg #[.int .i64 t.k, .int .i64 t.n, .string t.s, .slice a t.args.length c], .agg #[.int .i64 u.k, .int .i64 u.n, .string u.s, .slice a' u.args.length c']] w fun e w' => e = .returned (.int .i64 r) ∧ Below w.heap.size w w' := by
    intro r hr
    unfold cmpHead at hr
    by_cases q1 : cmpI t.k u.k ≠ 0
    · rw [if_pos q1] at hr
      subst hr
      have q : (cmpI t.k u.k == 0) = false := by simpa using q1
      clear q1
      go_enter Try.func99, Try.ntmps99
      go_wp2_with (first
        | (go_at_call 114; refine (cmp_int _ _ _).mono ?_; rintro e w' ⟨rfl, rfl⟩)
        | (go_at_call 115; refine (cmp_int64 _ _ _).mono ?_; rintro e w' ⟨rfl, rfl⟩)
        | (go_at_call 116; refine (Try.strings_Compare _ _ _).mono ?_; rintro e w' ⟨rfl, rfl⟩))
      go_ret
      exact ⟨rfl, TB.out⟩
    rw [if_neg q1] at hr
    have q1' : (cmpI t.k u.k == 0) = true := by simpa using q1
    clear q1
    by_cases q2 : cmpI t.args.length u.args.length ≠ 0
    · rw [if_pos q2] at hr
      subst hr
      have q : (cmpI t.args.length u.args.length == 0) = false := by simpa using q2
      clear q2
      go_enter Try.func99, Try.ntmps99
      go_wp2_with (first
        | (go_at_call 114; refine (cmp_int _ _ _).mono ?_; rintro e w' ⟨rfl, rfl⟩)
        | (go_at_call 115; refine (cmp_int64 _ _ _).mono ?_; rintro e w' ⟨rfl, rfl⟩)
        | (go_at_call 116; refine (Try.strings_Compare _ _ _).mono ?_; rintro e w' ⟨rfl, rfl⟩))
      go_ret
      exact ⟨rfl, TB.out⟩
    rw [if_neg q2] at hr
    have q2' : (cmpI t.args.length u.args.length == 0) = true := by simpa using q2
    clear q2
    by_cases q3 : cmpI t.n u.n ≠ 0
    · rw [if_pos q3] at hr
      subst hr
      have q : (cmpI t.n u.n == 0) = false := by simpa using q3
      clear q3
      go_enter Try.func99, Try.ntmps99
      go_wp2_with (first
        | (go_at_call 114; refine (cmp_int _ _ _).mono ?_; rintro e w' ⟨rfl, rfl⟩)
        | (go_at_call 115; refine (cmp_int64 _ _ _).mono ?_; rintro e w' ⟨rfl, rfl⟩)
        | (go_at_call 116; refine (Try.strings_Compare _ _ _).mono ?_; rintro e w' ⟨rfl, rfl⟩))
      go_ret
      exact ⟨rfl, TB.out⟩
    · rw [if_neg q3] at hr
      subst hr
      have q3' : (cmpI t.n u.n == 0) = true := by simpa using q3
      clear q3
      go_enter Try.func99, Try.ntmps99
      go_wp2_with (first
        | (go_at_call 114; refine (cmp_int _ _ _).mono ?_; rintro e w' ⟨rfl, rfl⟩)
        | (go_at_call 115; refine (cmp_int64 _ _ _).mono ?_; rintro e w' ⟨rfl, rfl⟩)
        | (go_at_call 116; refine (Try.strings_Compare _ _ _).mono ?_; rintro e w' ⟨rfl, rfl⟩))
      go_ret
      exact ⟨rfl, TB.out⟩
  exact go _ rfl
end Go.Proofs.Ytmlceamcpelklaa.Tms
