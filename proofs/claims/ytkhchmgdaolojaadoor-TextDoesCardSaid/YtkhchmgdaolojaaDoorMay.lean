
/-
  term.may of the program walked: whether a part may be, but for its Args.
  term.measure's take of the program walked.
-/
import Derived.Test.YtkhchmgdaolojaaDoorSame
import Derived.Test.YtkhchmgdaolojaaDoorGna
namespace Go.Proofs.YtkhchmgdaolojaaDoor.Tms
open Go Go.RowKit

def mayB (k n : Int) (s : ByteArray) (m : Nat) : Bool :=
  if k = 1 then decide (0 ≤ n) && (s.toList.isEmpty && decide (m = 0)) else if k = 2 then s.toList.isEmpty && decide (m = 0)
  else if k = 3 then decide (n = 0) && (decide (s.size ≤ 1000) && decide (m = 0)) else if k = 4 then decide (n = 0) && (decide (s.size ≤ 1000) && (decide (1 ≤ m) && decide (m ≤ 255))) else false

set_option maxHeartbeats 1600000 in
theorem tm_may (k n : Int) (s : ByteArray) (a : Option Addr) (m c : Nat) (w : World) (hm : m ≤ 1000000000) :
    Calls Tryd.prog 70 #[.agg #[.int .i64 k, .int .i64 n, .string s, .slice a m c]] w (Says (mayB k n s m) w) := by
  by_cases k1 : k = 1
  · subst k1
    by_cases h1 : 0 ≤ n
    · cases h2 : s.toList.isEmpty
      · have hr : mayB 1 n s m = false := by simp [mayB, h1, h2]
        rw [hr]
        clear hr
        go_enter Tryd.func70, Tryd.ntmps70
        go_wp2
        go_ret
        exact ⟨rfl, (Below.refl _ _).alloc (Nat.le_refl _) _⟩
      · by_cases h3 : m = 0
        · have q3 : ((m : Int) == 0) = true := by rw [beq_iff_eq]; omega
          have hr : mayB 1 n s m = true := by simp [mayB, h1, h2, h3]
          rw [hr]
          clear hr
          go_enter Tryd.func70, Tryd.ntmps70
          go_wp2
          go_ret
          exact ⟨rfl, (Below.refl _ _).alloc (Nat.le_refl _) _⟩
        · have q3 : ((m : Int) == 0) = false := by rw [beq_eq_false_iff_ne]; omega
          have hr : mayB 1 n s m = false := by simp [mayB, h1, h2, h3]
          rw [hr]
          clear hr
          go_enter Tryd.func70, Tryd.ntmps70
          go_wp2
          go_ret
          exact ⟨rfl, (Below.refl _ _).alloc (Nat.le_refl _) _⟩
    · have hr : mayB 1 n s m = false := by simp [mayB, h1]
      rw [hr]
      clear hr
      go_enter Tryd.func70, Tryd.ntmps70
      go_wp2
      go_ret
      exact ⟨rfl, (Below.refl _ _).alloc (Nat.le_refl _) _⟩
  by_cases k2 : k = 2
  · subst k2
    cases h1 : s.toList.isEmpty
    · have hr : mayB 2 n s m = false := by simp [mayB, h1]
      rw [hr]
      clear hr
      go_enter Tryd.func70, Tryd.ntmps70
      go_wp2
      go_ret
      exact ⟨rfl, (Below.refl _ _).alloc (Nat.le_refl _) _⟩
    · by_cases h2 : m = 0
      · have q2 : ((m : Int) == 0) = true := by rw [beq_iff_eq]; omega
        have hr : mayB 2 n s m = true := by simp [mayB, h1, h2]
        rw [hr]
        clear hr
        go_enter Tryd.func70, Tryd.ntmps70
        go_wp2
        go_ret
        exact ⟨rfl, (Below.refl _ _).alloc (Nat.le_refl _) _⟩
      · have q2 : ((m : Int) == 0) = false := by rw [beq_eq_false_iff_ne]; omega
        have hr : mayB 2 n s m = false := by simp [mayB, h1, h2]
        rw [hr]
        clear hr
        go_enter Tryd.func70, Tryd.ntmps70
        go_wp2
        go_ret
        exact ⟨rfl, (Below.refl _ _).alloc (Nat.le_refl _) _⟩
  by_cases k3 : k = 3
  · subst k3
    by_cases h1 : n = 0
    · have q1 : (n == 0) = true := by rw [beq_iff_eq]; omega
      by_cases h2 : s.size ≤ 1000
      · by_cases h3 : m = 0
        · have q3 : ((m : Int) == 0) = true := by rw [beq_iff_eq]; omega
          have hr : mayB 3 n s m = true := by simp [mayB, h1, h2, h3]
          rw [hr]
          clear hr
          go_enter Tryd.func70, Tryd.ntmps70
          go_wp2
          go_ret
          exact ⟨rfl, (Below.refl _ _).alloc (Nat.le_refl _) _⟩
        · have q3 : ((m : Int) == 0) = false := by rw [beq_eq_false_iff_ne]; omega
          have hr : mayB 3 n s m = false := by simp [mayB, h1, h2, h3]
          rw [hr]
          clear hr
          go_enter Tryd.func70, Tryd.ntmps70
          go_wp2
          go_ret
          exact ⟨rfl, (Below.refl _ _).alloc (Nat.le_refl _) _⟩
      · have hr : mayB 3 n s m = false := by simp [mayB, h1, h2]
        rw [hr]
        clear hr
        go_enter Tryd.func70, Tryd.ntmps70
        go_wp2
        go_ret
        exact ⟨rfl, (Below.refl _ _).alloc (Nat.le_refl _) _⟩
    · have q1 : (n == 0) = false := by rw [beq_eq_false_iff_ne]; omega
      have hr : mayB 3 n s m = false := by simp [mayB, h1]
      rw [hr]
      clear hr
      go_enter Tryd.func70, Tryd.ntmps70
      go_wp2
      go_ret
      exact ⟨rfl, (Below.refl _ _).alloc (Nat.le_refl _) _⟩
  by_cases k4 : k = 4
  · subst k4
    by_cases h1 : n = 0
    · have q1 : (n == 0) = true := by rw [beq_iff_eq]; omega
      by_cases h2 : s.size ≤ 1000
      · by_cases h3 : 1 ≤ m
        · by_cases h4 : m ≤ 255
          · have q4 : decide ((m : Int) ≤ 255) = true := by simp; omega
            have hr : mayB 4 n s m = true := by simp [mayB, h1, h2, h3, h4]
            rw [hr]
            clear hr
            go_enter Tryd.func70, Tryd.ntmps70
            go_wp2
            go_ret
            exact ⟨rfl, (Below.refl _ _).alloc (Nat.le_refl _) _⟩
          · have q4 : decide ((m : Int) ≤ 255) = false := by simp; omega
            have hr : mayB 4 n s m = false := by simp [mayB, h1, h2, h3, h4]
            rw [hr]
            clear hr
            go_enter Tryd.func70, Tryd.ntmps70
            go_wp2
            go_ret
            exact ⟨rfl, (Below.refl _ _).alloc (Nat.le_refl _) _⟩
        · have hr : mayB 4 n s m = false := by simp [mayB, h1, h2, h3]
          rw [hr]
          clear hr
          go_enter Tryd.func70, Tryd.ntmps70
          go_wp2
          go_ret
          exact ⟨rfl, (Below.refl _ _).alloc (Nat.le_refl _) _⟩
      · have hr : mayB 4 n s m = false := by simp [mayB, h1, h2]
        rw [hr]
        clear hr
        go_enter Tryd.func70, Tryd.ntmps70
        go_wp2
        go_ret
        exact ⟨rfl, (Below.refl _ _).alloc (Nat.le_refl _) _⟩
    · have q1 : (n == 0) = false := by rw [beq_eq_false_iff_ne]; omega
      have hr : mayB 4 n s m = false := by simp [mayB, h1]
      rw [hr]
      clear hr
      go_enter Tryd.func70, Tryd.ntmps70
      go_wp2
      go_ret
      exact ⟨rfl, (Below.refl _ _).alloc (Nat.le_refl _) _⟩
  have g1 : (k == 1) = false := by simpa using k1
  have g2 : (k == 2) = false := by simpa using k2
  have g3 : (k == 3) = false := by simpa using k3
  have g4 : (k == 4) = false := by simpa using k4
  have hr : mayB k n s m = false := by simp [mayB, k1, k2, k3, k4]
  rw [hr]
  clear hr k1 k2 k3 k4
  go_enter Tryd.func70, Tryd.ntmps70
  go_wp2
  go_ret
  exact ⟨rfl, (Below.refl _ _).alloc (Nat.le_refl _) _⟩
end Go.Proofs.YtkhchmgdaolojaaDoor.Tms
namespace Go.Proofs.YtkhchmgdaolojaaDoor.Tms
open Go Go.RowKit

def Took (b : Nat) (bad : Bool) (sz dp : Int) (w : World) (e : Ending) (w' : World) : Prop :=
  e = .returned (.tuple #[]) ∧ w'.heap[b]? = some (.cells #[.bool bad, .int .i64 sz, .int .i64 dp] 66 (0, 0)) ∧ w.grownBy w' (some b)

theorem meas_two {w : World} {b : Nat} {bad : Bool} {sz dp y : Int} (x : Int) (hb : w.heap[b]? = some (.cells #[.bool bad, .int .i64 sz, .int .i64 dp] 66 (0, 0))) :
    ((w.setCell ⟨b, 1, none⟩ (.int .i64 y)).setCell ⟨b, 2, none⟩ (.int .i64 x)).heap[b]? = some (.cells #[.bool bad, .int .i64 y, .int .i64 x] 66 (0, 0)) ∧ w.grownBy ((w.setCell ⟨b, 1, none⟩ (.int .i64 y)).setCell ⟨b, 2, none⟩ (.int .i64 x)) (some b) := by
  have h1 := heap_setCell_same w b 1 _ _ (.int .i64 y) hb
  have h2 := heap_setCell_same _ b 2 _ _ (.int .i64 x) h1
  refine ⟨by simpa using h2, ⟨rfl, rfl, rfl, by simp [World.setCell], fun k _ hk => ?_⟩⟩
  have hne : k ≠ b := fun e => hk (by rw [e])
  exact (Below.heap_setCell _ _ _ _ hne).trans (Below.heap_setCell _ _ _ _ hne)

set_option maxHeartbeats 1600000 in
theorem tm_take (b : Nat) (bad : Bool) (sz dp d k n : Int) (s : ByteArray) (a : Option Addr) (m c : Nat) (w : World) (hm : m ≤ 1000000000) (h0 : 0 ≤ sz) (h1 : sz ≤ 1000000000)
    (hb : w.heap[b]? = some (.cells #[.bool bad, .int .i64 sz, .int .i64 dp] 66 (0, 0))) :
    Calls Tryd.prog 60 #[.pointer (some ⟨b, 0, none⟩), .agg #[.int .i64 k, .int .i64 n, .string s, .slice a m c], .int .i64 d] w (Took b (bad || !mayB k n s m) (sz + 1) (max dp d) w) := by
  have c0 : w.cell? ⟨b, 0, none⟩ = some (.bool bad) := cell_of_row w b 0 _ _ _ hb
  have c1 : w.cell? ⟨b, 1, none⟩ = some (.int .i64 sz) := cell_of_row w b 1 _ _ _ hb
  have c2 : w.cell? ⟨b, 2, none⟩ = some (.int .i64 dp) := cell_of_row w b 2 _ _ _ hb
  have hlt : b < w.heap.size := (Array.getElem?_eq_some_iff.1 hb).1
  have z1 : w.frozen? ⟨b, 1, none⟩ = false := frozen_of_row w b 1 _ _ hb
  have z2 : w.frozen? ⟨b, 2, none⟩ = false := frozen_of_row w b 2 _ _ hb
  have HB := Lib.hid hb
  clear hb
  cases hmay : mayB k n s m
  all_goals
    have HMAY := Lib.hid hmay
    clear hmay
    go_enter Tryd.func60, Tryd.ntmps60
    go_wp2_with fail
    all_goals
      first
        | (have hx := meas_two (y := sz + 1) dp HB.out
           have hmx : max dp d = dp := by omega
           have hbm : Below b w ((w.setCell ⟨b, 1, none⟩ (.int .i64 (sz + 1))).setCell ⟨b, 2, none⟩ (.int .i64 dp)) := (Below.refl b w).grown hx.2 (Nat.le_of_lt hlt) (by intro k e; cases e; exact Nat.le_refl _)
           generalize ((w.setCell ⟨b, 1, none⟩ (.int .i64 (sz + 1))).setCell ⟨b, 2, none⟩ (.int .i64 dp)) = W2 at *)
        | (have hx := meas_two (y := sz + 1) d HB.out
           have hmx : max dp d = d := by omega
           have hbm : Below b w ((w.setCell ⟨b, 1, none⟩ (.int .i64 (sz + 1))).setCell ⟨b, 2, none⟩ (.int .i64 d)) := (Below.refl b w).grown hx.2 (Nat.le_of_lt hlt) (by intro k e; cases e; exact Nat.le_refl _)
           generalize ((w.setCell ⟨b, 1, none⟩ (.int .i64 (sz + 1))).setCell ⟨b, 2, none⟩ (.int .i64 d)) = W2 at *)
      have hl2 : b < W2.heap.size := (Array.getElem?_eq_some_iff.1 hx.1).1
      refine (tm_may k n s a m c _ hm).mono ?_
      rintro e w3 ⟨rfl, hb3⟩
      rw [HMAY.out]
      have h3 := (hb3.block b (by simp; omega)).trans ((heap_alloc_old _ _ hl2).trans hx.1)
      have g3 : w.grownBy w3 (some b) := ⟨hb3.os.trans hx.2.os, hb3.tape.trans hx.2.tape, hb3.output.trans hx.2.output, by have := hb3.size; have := hx.2.size; simp at *; omega, fun q hq hne => (hb3.block q (by have := hx.2.size; simp; omega)).trans ((heap_alloc_old _ _ (by have := hx.2.size; omega)).trans (hx.2.block q hq hne))⟩
      have y0 := cell_of_row w3 b 0 _ _ _ h3
      have yz := frozen_of_row w3 b 0 _ _ h3
      have hs3 := heap_setCell_same w3 b 0 _ _ (.bool true) h3
      have g4 : w.grownBy (w3.setCell ⟨b, 0, none⟩ (.bool true)) (some b) := ⟨g3.os, g3.tape, g3.output, by have := g3.size; simpa [World.setCell] using this, fun q hq hne => (Below.heap_setCell _ _ _ _ (fun e => hne (by rw [e]))).trans (g3.block q hq hne)⟩
      have H3 := Lib.hid h3
      have G3 := Lib.hid g3
      have HS3 := Lib.hid hs3
      have G4 := Lib.hid g4
      have HMX := Lib.hid hmx
      clear h3 g3 hs3 g4 hmx hx hbm hb3 c0 c1 c2 z1 z2
      go_wp2
      refine ⟨rfl, .tuple #[], by simp [results, Tryd.results60, go_sem], rfl, ?_⟩
      rw [HMX.out]
      first
        | exact ⟨by simpa using HS3.out, G4.out⟩
        | exact ⟨by simpa using H3.out, G3.out⟩
end Go.Proofs.YtkhchmgdaolojaaDoor.Tms
