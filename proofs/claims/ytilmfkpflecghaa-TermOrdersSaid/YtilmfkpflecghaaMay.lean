
/-
  term.may of the program walked: whether a part may be, but for its Args.
-/
import Derived.Test.YtilmfkpflecghaaSame
namespace Go.Proofs.Ytilmfkpflecghaa.Tms
open Go Go.RowKit

def mayB (k n : Int) (s : ByteArray) (m : Nat) : Bool :=
  if k = 1 then decide (0 ≤ n) && (s.toList.isEmpty && decide (m = 0)) else if k = 2 then s.toList.isEmpty && decide (m = 0)
  else if k = 3 then decide (n = 0) && (decide (s.size ≤ 1000) && decide (m = 0)) else if k = 4 then decide (n = 0) && (decide (s.size ≤ 1000) && (decide (1 ≤ m) && decide (m ≤ 255))) else false

set_option maxHeartbeats 1600000 in
theorem tm_may (k n : Int) (s : ByteArray) (a : Option Addr) (m c : Nat) (w : World) (hm : m ≤ 1000000000) :
    Calls Try.prog 126 #[.agg #[.int .i64 k, .int .i64 n, .string s, .slice a m c]] w (Says (mayB k n s m) w) := by
  by_cases k1 : k = 1
  · subst k1
    by_cases h1 : 0 ≤ n
    · cases h2 : s.toList.isEmpty
      · have hr : mayB 1 n s m = false := by simp [mayB, h1, h2]
        rw [hr]
        clear hr
        go_enter Try.func126, Try.ntmps126
        go_wp2
        go_ret
        exact ⟨rfl, (Below.refl _ _).alloc (Nat.le_refl _) _⟩
      · by_cases h3 : m = 0
        · have q3 : ((m : Int) == 0) = true := by rw [beq_iff_eq]; omega
          have hr : mayB 1 n s m = true := by simp [mayB, h1, h2, h3]
          rw [hr]
          clear hr
          go_enter Try.func126, Try.ntmps126
          go_wp2
          go_ret
          exact ⟨rfl, (Below.refl _ _).alloc (Nat.le_refl _) _⟩
        · have q3 : ((m : Int) == 0) = false := by rw [beq_eq_false_iff_ne]; omega
          have hr : mayB 1 n s m = false := by simp [mayB, h1, h2, h3]
          rw [hr]
          clear hr
          go_enter Try.func126, Try.ntmps126
          go_wp2
          go_ret
          exact ⟨rfl, (Below.refl _ _).alloc (Nat.le_refl _) _⟩
    · have hr : mayB 1 n s m = false := by simp [mayB, h1]
      rw [hr]
      clear hr
      go_enter Try.func126, Try.ntmps126
      go_wp2
      go_ret
      exact ⟨rfl, (Below.refl _ _).alloc (Nat.le_refl _) _⟩
  by_cases k2 : k = 2
  · subst k2
    cases h1 : s.toList.isEmpty
    · have hr : mayB 2 n s m = false := by simp [mayB, h1]
      rw [hr]
      clear hr
      go_enter Try.func126, Try.ntmps126
      go_wp2
      go_ret
      exact ⟨rfl, (Below.refl _ _).alloc (Nat.le_refl _) _⟩
    · by_cases h2 : m = 0
      · have q2 : ((m : Int) == 0) = true := by rw [beq_iff_eq]; omega
        have hr : mayB 2 n s m = true := by simp [mayB, h1, h2]
        rw [hr]
        clear hr
        go_enter Try.func126, Try.ntmps126
        go_wp2
        go_ret
        exact ⟨rfl, (Below.refl _ _).alloc (Nat.le_refl _) _⟩
      · have q2 : ((m : Int) == 0) = false := by rw [beq_eq_false_iff_ne]; omega
        have hr : mayB 2 n s m = false := by simp [mayB, h1, h2]
        rw [hr]
        clear hr
        go_enter Try.func126, Try.ntmps126
        go_wp2
        go_ret
        exact ⟨rfl, (Below.refl _ _).alloc (Nat.le_refl _) _⟩
  by_cases k3 : k = 3
  · subst k3
    by_cases h1 : n = 0
    · have q1 : (n == 0) = true := by rw [beq_iff_eq]; omega
      by_cases h2 : s.size ≤ 1000
      · by_cases h3 : m = 0
        · have q3 : ((m : Int) == 0) = true := by rw [beq_iff_eq]; omega
          have hr : mayB 3 n s m = true := by simp [mayB, h1, h2, h3]
          rw [hr]
          clear hr
          go_enter Try.func126, Try.ntmps126
          go_wp2
          go_ret
          exact ⟨rfl, (Below.refl _ _).alloc (Nat.le_refl _) _⟩
        · have q3 : ((m : Int) == 0) = false := by rw [beq_eq_false_iff_ne]; omega
          have hr : mayB 3 n s m = false := by simp [mayB, h1, h2, h3]
          rw [hr]
          clear hr
          go_enter Try.func126, Try.ntmps126
          go_wp2
          go_ret
          exact ⟨rfl, (Below.refl _ _).alloc (Nat.le_refl _) _⟩
      · have hr : mayB 3 n s m = false := by simp [mayB, h1, h2]
        rw [hr]
        clear hr
        go_enter Try.func126, Try.ntmps126
        go_wp2
        go_ret
        exact ⟨rfl, (Below.refl _ _).alloc (Nat.le_refl _) _⟩
    · have q1 : (n == 0) = false := by rw [beq_eq_false_iff_ne]; omega
      have hr : mayB 3 n s m = false := by simp [mayB, h1]
      rw [hr]
      clear hr
      go_enter Try.func126, Try.ntmps126
      go_wp2
      go_ret
      exact ⟨rfl, (Below.refl _ _).alloc (Nat.le_refl _) _⟩
  by_cases k4 : k = 4
  · subst k4
    by_cases h1 : n = 0
    · have q1 : (n == 0) = true := by rw [beq_iff_eq]; omega
      by_cases h2 : s.size ≤ 1000
      · by_cases h3 : 1 ≤ m
        · by_cases h4 : m ≤ 255
          · have q4 : decide ((m : Int) ≤ 255) = true := by simp; omega
            have hr : mayB 4 n s m = true := by simp [mayB, h1, h2, h3, h4]
            rw [hr]
            clear hr
            go_enter Try.func126, Try.ntmps126
            go_wp2
            go_ret
            exact ⟨rfl, (Below.refl _ _).alloc (Nat.le_refl _) _⟩
          · have q4 : decide ((m : Int) ≤ 255) = false := by simp; omega
            have hr : mayB 4 n s m = false := by simp [mayB, h1, h2, h3, h4]
            rw [hr]
            clear hr
            go_enter Try.func126, Try.ntmps126
            go_wp2
            go_ret
            exact ⟨rfl, (Below.refl _ _).alloc (Nat.le_refl _) _⟩
        · have hr : mayB 4 n s m = false := by simp [mayB, h1, h2, h3]
          rw [hr]
          clear hr
          go_enter Try.func126, Try.ntmps126
          go_wp2
          go_ret
          exact ⟨rfl, (Below.refl _ _).alloc (Nat.le_refl _) _⟩
      · have hr : mayB 4 n s m = false := by simp [mayB, h1, h2]
        rw [hr]
        clear hr
        go_enter Try.func126, Try.ntmps126
        go_wp2
        go_ret
        exact ⟨rfl, (Below.refl _ _).alloc (Nat.le_refl _) _⟩
    · have q1 : (n == 0) = false := by rw [beq_eq_false_iff_ne]; omega
      have hr : mayB 4 n s m = false := by simp [mayB, h1]
      rw [hr]
      clear hr
      go_enter Try.func126, Try.ntmps126
      go_wp2
      go_ret
      exact ⟨rfl, (Below.refl _ _).alloc (Nat.le_refl _) _⟩
  have g1 : (k == 1) = false := by simpa using k1
  have g2 : (k == 2) = false := by simpa using k2
  have g3 : (k == 3) = false := by simpa using k3
  have g4 : (k == 4) = false := by simpa using k4
  have hr : mayB k n s m = false := by simp [mayB, k1, k2, k3, k4]
  rw [hr]
  clear hr k1 k2 k3 k4
  go_enter Try.func126, Try.ntmps126
  go_wp2
  go_ret
  exact ⟨rfl, (Below.refl _ _).alloc (Nat.le_refl _) _⟩
end Go.Proofs.Ytilmfkpflecghaa.Tms
