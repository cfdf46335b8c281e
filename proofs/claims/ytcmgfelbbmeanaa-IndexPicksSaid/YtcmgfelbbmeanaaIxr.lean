
/-
  Layer 20: the reference's keys.
-/
import Derived.Test.YtcmgfelbbmeanaaIxi
namespace Go.Proofs.Ytcmgfelbbmeanaa.Tms
open Go Go.RowKit Go.Proofs.Ytcmgfelbbmeanaa.Reg Go.Proofs.Ytcmgfelbbmeanaa.Rws Go.Proofs.Ytcmgfelbbmeanaa.Maps Go.Proofs.Ytcmgfelbbmeanaa.Cod Go.Instr
set_option linter.unusedVariables false
set_option linter.unusedSimpArgs false

theorem two_old (w : World) (o o' : Obj) : ((w.alloc o).alloc o').heap[w.heap.size]? = some o := by
  have h := (Below.refl (w.alloc o).heap.size (w.alloc o)).alloc (Nat.le_refl _) o'
  exact (h.block w.heap.size (by simp)).trans (heap_alloc_new w o)
def insV (i : Ins) : Value := .agg #[.int .i64 i.op, .int .i64 i.a, .int .i64 i.n, .string i.s]
def zeroI : Ins := ⟨0, 0, 0, ⟨#[]⟩⟩
/-- an instruction's key -/
def insK (i : Ins) : Option Kx := if i.op = 4 then some (4, 0, i.n, ⟨#[]⟩) else if i.op = 5 then some (5, 0, 0, i.s) else if i.op = 6 then some (6, i.a, 0, i.s) else none
def keyI (c : Cod) : Ins := match c.l with
  | [] => zeroI
  | i :: _ => if c.args = 0 ∨ i.op < 4 ∨ 6 < i.op then zeroI else i
def ofI (k n : Int) (s : ByteArray) (args : Int) : Ins := if k = 2 then ⟨4, 0, n, ⟨#[]⟩⟩ else if k = 3 then ⟨5, 0, 0, s⟩ else if k = 4 then ⟨6, args, 0, s⟩ else zeroI
def sameI (a b : Ins) : Bool := if a.op ≠ b.op then false else if a.op = 4 then a.n == b.n else if a.op = 5 then a.s.toList == b.s.toList else a.a == b.a && a.s.toList == b.s.toList
theorem insK_key (c : Cod) : insK (keyI c) = codeK c := by
  unfold keyI codeK
  split
  · rename_i h; rw [h]; split <;> rfl
  · rename_i i r h
    rw [h]
    by_cases h0 : c.args = 0
    · rw [if_pos (.inl h0), if_pos h0]; rfl
    · rw [if_neg h0]
      by_cases h1 : i.op < 4 ∨ 6 < i.op
      · rw [if_pos (.inr h1)]
        dsimp only
        rw [if_neg (by omega), if_neg (by omega), if_neg (by omega)]
        rfl
      · rw [if_neg (by omega)]; rfl
theorem insK_of (k n : Int) (s : ByteArray) (args : Int) : insK (ofI k n s args) = termK k n s args := by
  unfold ofI termK
  split
  · rfl
  · split
    · rfl
    · split <;> rfl
/-- an instruction that is a key, or none -/
def KeyI (i : Ins) : Prop := i.op = 0 ∨ i.op = 4 ∨ i.op = 5 ∨ i.op = 6
theorem keyI_ok (c : Cod) : KeyI (keyI c) := by
  unfold keyI
  split
  · exact .inl rfl
  · split
    · exact .inl rfl
    · unfold KeyI; omega
theorem ofI_ok (k n : Int) (s : ByteArray) (args : Int) : KeyI (ofI k n s args) := by
  unfold ofI
  split
  · exact .inr (.inl rfl)
  · split
    · exact .inr (.inr (.inl rfl))
    · split
      · exact .inr (.inr (.inr rfl))
      · exact .inl rfl
theorem insK_none {i : Ins} (h : KeyI i) : (i.op = 0) ↔ insK i = none := by
  unfold insK
  rcases h with h | h | h | h <;> simp [h]
theorem same_ok {a b : Ins} (ha : KeyI a) (hb : KeyI b) (h0 : a.op ≠ 0) : sameI a b = decide (insK a = insK b) := by
  have hd := kx_dec
  obtain ⟨ao, aa, an, sa⟩ := a
  obtain ⟨bo, ba, bn, sb⟩ := b
  unfold KeyI at ha hb
  dsimp only at ha hb h0
  have hl : (sa.toList == sb.toList) = decide (sa = sb) := by
    have := hd 0 0 0 0 0 0 sa sb
    simpa using this
  rcases ha with rfl | rfl | rfl | rfl
  · exact absurd rfl h0
  all_goals
    rcases hb with rfl | rfl | rfl | rfl <;> simp [sameI, insK, hl, Bool.beq_eq_decide_eq]
set_option maxRecDepth 100000 in
set_option maxHeartbeats 1000000 in
theorem ref_Key20 (c : Cod) (v : Value) (w : World) (hv : InsSl w v c.l) (hl : c.l.length ≤ 1000000) :
    Calls Try.prog 47 #[codVal c v] w fun e w' => e = .returned (insV (keyI c)) ∧ Below w.heap.size w w' := by
  obtain ⟨nm, ar, sl, bo, L⟩ := c
  obtain ⟨a, cap, rfl, hc⟩ := hv
  dsimp only at hc hl
  unfold codVal
  dsimp only
  have hr1 := heap_alloc_new w (.cells #[.string nm, .int .i64 ar, .int .i64 sl, .int .i64 bo, .slice a L.length cap] 28 (0, 0))
  by_cases h0 : ar = 0
  · subst h0
    rw [show keyI ⟨nm, 0, sl, bo, L⟩ = zeroI by unfold keyI; split <;> simp]
    have x1 := cell_of_row _ _ 1 _ _ _ hr1
    clear hc
    go_enter Try.func47, Try.ntmps47
    go_wp2
    exact bodyPost_ret (v := insV zeroI) (results_cell_row Try.results47 _ _ (w.heap.size + 1) _ _ _ _ rfl (two_at _ _ _) Try.underlying109 rfl (by kernel_rfl)) rfl ⟨rfl, ((Below.refl w.heap.size w).alloc (Nat.le_refl _) _).alloc (by simp) _⟩
  have b0 : (ar == 0) = false := by simpa using h0
  have x1 := cell_of_row _ _ 1 _ _ _ hr1
  have x4 := cell_of_row _ _ 4 _ _ _ hr1
  cases L with
  | nil =>
    rw [show keyI ⟨nm, ar, sl, bo, []⟩ = zeroI from rfl]
    clear hc h0
    go_enter Try.func47, Try.ntmps47
    go_wp2
    exact bodyPost_ret (v := insV zeroI) (results_cell_row Try.results47 _ _ (w.heap.size + 1) _ _ _ _ rfl (two_at _ _ _) Try.underlying109 rfl (by kernel_rfl)) rfl ⟨rfl, ((Below.refl w.heap.size w).alloc (Nat.le_refl _) _).alloc (by simp) _⟩
  | cons i L =>
    obtain ⟨b, off, rfl, y0, y1, y2, y3⟩ := hc 0 (by simp)
    simp only [Nat.zero_mul, Nat.add_zero, List.getElem_cons_zero] at y0 y1 y2 y3
    have hbl := World.block_lt_of_cell? _ _ y0
    obtain ⟨op, ia, n, s⟩ := i
    dsimp only at y0 y1 y2 y3
    have bl : (((L.length + 1 : Nat) : Int) == 0) = false := by simp; omega
    clear hc
    by_cases k4 : op < 4
    · have d4 : decide (op < 4) = true := by simpa using k4
      rw [show keyI ⟨nm, ar, sl, bo, ⟨op, ia, n, s⟩ :: L⟩ = zeroI from if_pos (.inr (.inl k4))]
      clear h0 k4
      go_enter Try.func47, Try.ntmps47
      go_wp2
      exact bodyPost_ret (v := insV zeroI) (results_cell_row Try.results47 _ _ (w.heap.size + 1) _ _ _ _ rfl (two_at _ _ _) Try.underlying109 rfl (by kernel_rfl)) rfl ⟨rfl, ((Below.refl w.heap.size w).alloc (Nat.le_refl _) _).alloc (by simp) _⟩
    have d4 : decide (op < 4) = false := by simpa using k4
    by_cases k6 : 6 < op
    · have d6 : decide (6 < op) = true := by simpa using k6
      rw [show keyI ⟨nm, ar, sl, bo, ⟨op, ia, n, s⟩ :: L⟩ = zeroI from if_pos (.inr (.inr k6))]
      clear h0 k4 k6
      go_enter Try.func47, Try.ntmps47
      go_wp2
      exact bodyPost_ret (v := insV zeroI) (results_cell_row Try.results47 _ _ (w.heap.size + 1) _ _ _ _ rfl (two_at _ _ _) Try.underlying109 rfl (by kernel_rfl)) rfl ⟨rfl, ((Below.refl w.heap.size w).alloc (Nat.le_refl _) _).alloc (by simp) _⟩
    have d6 : decide (6 < op) = false := by simpa using k6
    rw [show keyI ⟨nm, ar, sl, bo, ⟨op, ia, n, s⟩ :: L⟩ = ⟨op, ia, n, s⟩ from if_neg (by dsimp only; omega)]
    clear h0 k4 k6
    go_enter Try.func47, Try.ntmps47
    go_wp2
    exact bodyPost_ret (v := insV ⟨op, ia, n, s⟩) (results_cell_row Try.results47 _ _ (w.heap.size + 1) _ _ _ _ rfl (two_at _ _ _) Try.underlying109 rfl (by kernel_rfl)) rfl ⟨rfl, ((Below.refl w.heap.size w).alloc (Nat.le_refl _) _).alloc (by simp) _⟩
set_option maxRecDepth 100000 in
theorem ref_Of20 (k n : Int) (s : ByteArray) (a : Option Addr) (m c : Nat) (args : Int) (w : World) :
    Calls Try.prog 49 #[.agg #[.int .i64 k, .int .i64 n, .string s, .slice a m c], .int .i64 args] w fun e w' => e = .returned (insV (ofI k n s args)) ∧ Below w.heap.size w w' := by
  have hr1 := heap_alloc_new w (.cells #[.int .i64 k, .int .i64 n, .string s, .slice a m c] 31 (0, 0))
  obtain ⟨x0, x1, x2, x3⟩ := row4 hr1
  by_cases h2 : k = 2
  · subst h2
    rw [show ofI 2 n s args = ⟨4, 0, n, ⟨#[]⟩⟩ from rfl]
    go_enter Try.func49, Try.ntmps49
    go_wp2
    exact bodyPost_ret (v := insV ⟨4, 0, n, ⟨#[]⟩⟩) (results_cell_row Try.results49 _ _ (w.heap.size + 1) _ _ _ _ rfl (two_at _ _ _) Try.underlying109 rfl (by kernel_rfl)) rfl ⟨rfl, ((Below.refl w.heap.size w).alloc (Nat.le_refl _) _).alloc (by simp) _⟩
  have e2 : (k == 2) = false := by simpa using h2
  by_cases h3 : k = 3
  · subst h3
    rw [show ofI 3 n s args = ⟨5, 0, 0, s⟩ from rfl]
    go_enter Try.func49, Try.ntmps49
    go_wp2
    exact bodyPost_ret (v := insV ⟨5, 0, 0, s⟩) (results_cell_row Try.results49 _ _ (w.heap.size + 1) _ _ _ _ rfl (two_at _ _ _) Try.underlying109 rfl (by kernel_rfl)) rfl ⟨rfl, ((Below.refl w.heap.size w).alloc (Nat.le_refl _) _).alloc (by simp) _⟩
  have e3 : (k == 3) = false := by simpa using h3
  by_cases h4 : k = 4
  · subst h4
    rw [show ofI 4 n s args = ⟨6, args, 0, s⟩ from rfl]
    go_enter Try.func49, Try.ntmps49
    go_wp2
    exact bodyPost_ret (v := insV ⟨6, args, 0, s⟩) (results_cell_row Try.results49 _ _ (w.heap.size + 1) _ _ _ _ rfl (two_at _ _ _) Try.underlying109 rfl (by kernel_rfl)) rfl ⟨rfl, ((Below.refl w.heap.size w).alloc (Nat.le_refl _) _).alloc (by simp) _⟩
  have e4 : (k == 4) = false := by simpa using h4
  rw [show ofI k n s args = zeroI by unfold ofI; rw [if_neg h2, if_neg h3, if_neg h4]]
  clear h2 h3 h4
  go_enter Try.func49, Try.ntmps49
  go_wp2
  exact bodyPost_ret (v := insV zeroI) (results_cell_row Try.results49 _ _ (w.heap.size + 1) _ _ _ _ rfl (two_at _ _ _) Try.underlying109 rfl (by kernel_rfl)) rfl ⟨rfl, ((Below.refl w.heap.size w).alloc (Nat.le_refl _) _).alloc (by simp) _⟩
set_option maxRecDepth 100000 in
theorem ref_same20 (i j : Ins) (w : World) :
    Calls Try.prog 48 #[insV i, insV j] w fun e w' => e = .returned (.bool (sameI i j)) ∧ Below w.heap.size w w' := by
  obtain ⟨ao, aa, an, sa⟩ := i
  obtain ⟨bo, ba, bn, sb⟩ := j
  unfold insV
  dsimp only
  obtain ⟨x0, x1, x2, x3⟩ := row4 (two_old w (.cells #[.int .i64 ao, .int .i64 aa, .int .i64 an, .string sa] 109 (0, 0)) (.cells #[.int .i64 bo, .int .i64 ba, .int .i64 bn, .string sb] 109 (0, 0)))
  obtain ⟨y0, y1, y2, y3⟩ := row4 (two_at w (.cells #[.int .i64 ao, .int .i64 aa, .int .i64 an, .string sa] 109 (0, 0)) (.cells #[.int .i64 bo, .int .i64 ba, .int .i64 bn, .string sb] 109 (0, 0)))
  unfold sameI
  dsimp only
  by_cases h1 : ao = bo
  · have e1 : (ao != bo) = false := by simpa using h1
    have h1' : ¬ ao ≠ bo := fun h => h h1
    rw [if_neg h1']
    clear h1 h1'
    by_cases h4 : ao = 4
    · have e4 : (ao == 4) = true := by simpa using h4
      rw [if_pos h4]
      clear h4
      go_enter Try.func48, Try.ntmps48
      go_wp2
      go_ret
      exact ⟨rfl, ((Below.refl w.heap.size w).alloc (Nat.le_refl _) _).alloc (by simp) _⟩
    have e4 : (ao == 4) = false := by simpa using h4
    rw [if_neg h4]
    clear h4
    by_cases h5 : ao = 5
    · have e5 : (ao == 5) = true := by simpa using h5
      rw [if_pos h5]
      clear h5
      go_enter Try.func48, Try.ntmps48
      go_wp2
      go_ret
      exact ⟨rfl, ((Below.refl w.heap.size w).alloc (Nat.le_refl _) _).alloc (by simp) _⟩
    have e5 : (ao == 5) = false := by simpa using h5
    rw [if_neg h5]
    clear h5
    cases e6 : aa == ba
    · go_enter Try.func48, Try.ntmps48
      go_wp2
      go_ret
      exact ⟨rfl, ((Below.refl w.heap.size w).alloc (Nat.le_refl _) _).alloc (by simp) _⟩
    · go_enter Try.func48, Try.ntmps48
      go_wp2
      go_ret
      exact ⟨rfl, ((Below.refl w.heap.size w).alloc (Nat.le_refl _) _).alloc (by simp) _⟩
  · have e1 : (ao != bo) = true := by simpa using h1
    rw [if_pos h1]
    clear h1
    go_enter Try.func48, Try.ntmps48
    go_wp2
    go_ret
    exact ⟨rfl, ((Below.refl w.heap.size w).alloc (Nat.le_refl _) _).alloc (by simp) _⟩
end Go.Proofs.Ytcmgfelbbmeanaa.Tms
