
/-
  Layer 17: what kind a term is (a call's method sort).
-/
import Derived.Test.YtkhchmgdaolojaaShm
namespace Go.Proofs.Ytkhchmgdaolojaa.Tms
open Go Go.RowKit Go.Proofs.Ytkhchmgdaolojaa.Reg Go.Proofs.Ytkhchmgdaolojaa.Rws Go.Instr
set_option linter.unusedVariables false
set_option linter.unusedSimpArgs false

/-- a name, and what it asks of a term's kind -/
inductive ShK : ByteArray → (Int → Bool) → Prop where
  | k0 : ShK ⟨#[118, 97, 114]⟩ (fun k => k == 1)
  | k1 : ShK ⟨#[110, 111, 110, 118, 97, 114]⟩ (fun k => k != 1)
  | k2 : ShK ⟨#[97, 116, 111, 109]⟩ (fun k => k == 3)
  | k3 : ShK ⟨#[105, 110, 116, 101, 103, 101, 114]⟩ (fun k => k == 2)
  | k4 : ShK ⟨#[97, 116, 111, 109, 105, 99]⟩ (fun k => k == 2 || k == 3)
  | k5 : ShK ⟨#[99, 111, 109, 112, 111, 117, 110, 100]⟩ (fun k => k == 4)
  | k6 : ShK ⟨#[99, 97, 108, 108, 97, 98, 108, 101]⟩ (fun k => k == 3 || k == 4)
def didB (b : Bool) : Value := .agg #[.bool b, .slice none 0 0, .slice none 0 0, .int .i64 0, .int .i64 0, .string ⟨#[]⟩, .slice none 0 0]
set_option maxRecDepth 100000 in
set_option maxHeartbeats 4000000 in
theorem sh_sort {s : ByteArray} {g : Int → Bool} (h : ShK s g) (t : Tm) (P : Nat → Prop) (w : World) (a : Option Addr) (c : Nat) (hs : IsSl w P (.slice a 1 c) [t]) :
    Calls Try.prog 83 #[.agg #[.string s, .slice a 1 c]] w (fun e w' => e = .returned (didB (g t.k)) ∧ Below w.heap.size w w') := by
  obtain ⟨b, off, rfl, -, hat⟩ := hs.at 0 (by simp)
  obtain ⟨qa, qc, y0, y1, y2, y3, -, hbw⟩ := hat.read
  simp only [List.getElem_cons_zero, Nat.zero_mul, Nat.add_zero] at y0 y1 y2 y3
  obtain ⟨k, hk⟩ : ∃ k, k = t.k := ⟨_, rfl⟩
  rw [← hk] at y0 ⊢
  have hr := heap_alloc_new w (.cells #[.string s, .slice (some ⟨b, off, none⟩) 1 c] 140 (0, 0))
  have x0 := cell_of_row _ _ 0 _ _ _ hr
  have x1 := cell_of_row _ _ 1 _ _ _ hr
  clear hr hat hs y1 y2 y3 hk
  cases h
  case k0 =>
    go_enter Try.func83, Try.ntmps83
    go_wp2
    exact bodyPost_ret (v := didB (k == 1)) (results_cell_row Try.results83 _ _ (w.heap.size + 1) _ _ _ _ rfl (two w _ _).2.1 Try.underlying71 rfl (by kernel_rfl)) rfl ⟨rfl, (two w _ _).2.2.2⟩
  case k1 =>
    go_enter Try.func83, Try.ntmps83
    go_wp2
    exact bodyPost_ret (v := didB (k != 1)) (results_cell_row Try.results83 _ _ (w.heap.size + 1) _ _ _ _ rfl (two w _ _).2.1 Try.underlying71 rfl (by kernel_rfl)) rfl ⟨rfl, (two w _ _).2.2.2⟩
  case k2 =>
    go_enter Try.func83, Try.ntmps83
    go_wp2
    exact bodyPost_ret (v := didB (k == 3)) (results_cell_row Try.results83 _ _ (w.heap.size + 1) _ _ _ _ rfl (two w _ _).2.1 Try.underlying71 rfl (by kernel_rfl)) rfl ⟨rfl, (two w _ _).2.2.2⟩
  case k3 =>
    go_enter Try.func83, Try.ntmps83
    go_wp2
    exact bodyPost_ret (v := didB (k == 2)) (results_cell_row Try.results83 _ _ (w.heap.size + 1) _ _ _ _ rfl (two w _ _).2.1 Try.underlying71 rfl (by kernel_rfl)) rfl ⟨rfl, (two w _ _).2.2.2⟩
  case k4 =>
    show Calls Try.prog _ _ w (fun e w' => e = .returned (didB (k == 2 || k == 3)) ∧ Below w.heap.size w w')
    cases e : (k == 2)
    · rw [Bool.false_or]
      go_enter Try.func83, Try.ntmps83
      go_wp2
      exact bodyPost_ret (v := didB (k == 3)) (results_cell_row Try.results83 _ _ (w.heap.size + 1) _ _ _ _ rfl (two w _ _).2.1 Try.underlying71 rfl (by kernel_rfl)) rfl ⟨rfl, (two w _ _).2.2.2⟩
    · rw [Bool.true_or]
      go_enter Try.func83, Try.ntmps83
      go_wp2
      exact bodyPost_ret (v := didB true) (results_cell_row Try.results83 _ _ (w.heap.size + 1) _ _ _ _ rfl (two w _ _).2.1 Try.underlying71 rfl (by kernel_rfl)) rfl ⟨rfl, (two w _ _).2.2.2⟩
  case k5 =>
    go_enter Try.func83, Try.ntmps83
    go_wp2
    exact bodyPost_ret (v := didB (k == 4)) (results_cell_row Try.results83 _ _ (w.heap.size + 1) _ _ _ _ rfl (two w _ _).2.1 Try.underlying71 rfl (by kernel_rfl)) rfl ⟨rfl, (two w _ _).2.2.2⟩
  case k6 =>
    show Calls Try.prog _ _ w (fun e w' => e = .returned (didB (k == 3 || k == 4)) ∧ Below w.heap.size w w')
    cases e : (k == 3)
    · rw [Bool.false_or]
      go_enter Try.func83, Try.ntmps83
      go_wp2
      exact bodyPost_ret (v := didB (k == 4)) (results_cell_row Try.results83 _ _ (w.heap.size + 1) _ _ _ _ rfl (two w _ _).2.1 Try.underlying71 rfl (by kernel_rfl)) rfl ⟨rfl, (two w _ _).2.2.2⟩
    · rw [Bool.true_or]
      go_enter Try.func83, Try.ntmps83
      go_wp2
      exact bodyPost_ret (v := didB true) (results_cell_row Try.results83 _ _ (w.heap.size + 1) _ _ _ _ rfl (two w _ _).2.1 Try.underlying71 rfl (by kernel_rfl)) rfl ⟨rfl, (two w _ _).2.2.2⟩
end Go.Proofs.Ytkhchmgdaolojaa.Tms
