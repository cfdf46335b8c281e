
/-
  A slice of terms that was made at its full length and is filled from the left, one term a round: what it holds so far.
-/
import Derived.Test.YtkhchmgdaolojaaRow
import Derived.Test.YtkhchmgdaolojaaGmy
import Derived.Deep.MidRow
namespace Go.Proofs.Ytkhchmgdaolojaa.Tms
open Go Go.RowKit Go.Proofs.Ytkhchmgdaolojaa.Reg Go.Proofs.Ytkhchmgdaolojaa.Rws
set_option linter.unusedVariables false

/-- block g has room for n terms, the first of which are these, read through blocks from B on that are not g -/
structure Fill (w : World) (g n B : Nat) (ts : List Tm) : Prop where
  row : ∃ cs : Array Value, w.heap[g]? = some (.cells cs 49 (0, 0)) ∧ cs.size = n * 4
  got : ∀ i (h : i < ts.length), TmAt w (fun b => B ≤ b ∧ b ≠ g) g (i * 4) ts[i]
theorem Fill.lt {w : World} {g n B : Nat} {ts : List Tm} (h : Fill w g n B ts) : g < w.heap.size := by obtain ⟨cs, h, -⟩ := h.row; exact (Array.getElem?_eq_some_iff.1 h).1
theorem TmAt.imp' {w w' : World} {P P' : Nat → Prop} (hP : ∀ b, P b → P' b) (hw : ∀ b, P b → b < w.heap.size → w'.heap[b]? = w.heap[b]?) (t : Tm) (b o : Nat) (hc : ∀ j < 4, w'.cell? ⟨b, o + j, none⟩ = w.cell? ⟨b, o + j, none⟩) (h : TmAt w P b o t) : TmAt w' P' b o t := by
  obtain ⟨k, n, s, args⟩ := t
  unfold TmAt at h ⊢
  obtain ⟨a, cap, h0, h1, h2, h3, h4⟩ := h
  exact ⟨a, cap, (hc 0 (by omega)).trans h0, (hc 1 (by omega)).trans h1, (hc 2 (by omega)).trans h2, (hc 3 (by omega)).trans h3, ArgsFrom.imp hP hw args a 0 h4⟩
theorem Fill.keep {w w' : World} {g n B : Nat} {ts : List Tm} (h : Fill w g n B ts) (hk : ∀ b, b < w.heap.size → B ≤ b → w'.heap[b]? = w.heap[b]?) (hg : w'.heap[g]? = w.heap[g]?) : Fill w' g n B ts := by
  obtain ⟨cs, h1, h2⟩ := h.row
  exact ⟨⟨cs, hg.trans h1, h2⟩, fun i hi => (h.got i hi).imp' (fun _ h => h) (fun b hb hlt => hk b hlt hb.1) _ _ _ fun j _ => World.cell?_of_block (a := ⟨g, i * 4 + j, none⟩) hg⟩
theorem Fill.start {w : World} {g n B : Nat} {cs : Array Value} (h : w.heap[g]? = some (.cells cs 49 (0, 0))) (hs : cs.size = n * 4) : Fill w g n B [] := ⟨⟨cs, h, hs⟩, fun i hi => by simp at hi⟩
theorem four_cells (w : World) (g o : Nat) (x0 x1 x2 x3 : Value) : w.setCells g o [x0, x1, x2, x3] = (((w.setCell ⟨g, o, none⟩ x0).setCell ⟨g, o + 1, none⟩ x1).setCell ⟨g, o + 2, none⟩ x2).setCell ⟨g, o + 3, none⟩ x3 := by
  simp [World.setCells]
theorem Fill.put {w : World} {g n B q : Nat} {ts : List Tm} {t : Tm} {a : Option Addr} {c : Nat} (h : Fill w g n B ts) (hq : ts.length = q) (hn : q < n) (ht : IsTm w (fun b => B ≤ b ∧ b ≠ g) (aggT t a c) t) :
    w.there g (q * 4) 4 ∧ Fill (w.setCells g (q * 4) [.int .i64 t.k, .int .i64 t.n, .string t.s, .slice a t.args.length c]) g n B (ts ++ [t]) ∧
      Keeps w (w.setCells g (q * 4) [.int .i64 t.k, .int .i64 t.n, .string t.s, .slice a t.args.length c]) (fun b => b = g) := by
  obtain ⟨cs, h1, h2⟩ := h.row
  have hlt := (Array.getElem?_eq_some_iff.1 h1).1
  have e1 := heap_setCell_same w g (q * 4) _ _ (.int .i64 t.k) h1
  have e2 := heap_setCell_same _ g (q * 4 + 1) _ _ (.int .i64 t.n) e1
  have e3 := heap_setCell_same _ g (q * 4 + 2) _ _ (.string t.s) e2
  have e4 := heap_setCell_same _ g (q * 4 + 3) _ _ (.slice a t.args.length c) e3
  rw [← four_cells] at e4
  have hoth : ∀ b, b ≠ g → (w.setCells g (q * 4) [.int .i64 t.k, .int .i64 t.n, .string t.s, .slice a t.args.length c]).heap[b]? = w.heap[b]? := fun b hb => by
    rw [four_cells]
    exact (Below.heap_setCell _ _ _ _ hb).trans ((Below.heap_setCell _ _ _ _ hb).trans ((Below.heap_setCell _ _ _ _ hb).trans (Below.heap_setCell _ _ _ _ hb)))
  have hsz : (w.setCells g (q * 4) [.int .i64 t.k, .int .i64 t.n, .string t.s, .slice a t.args.length c]).heap.size = w.heap.size := by rw [four_cells]; simp [World.setCell]
  have hcell := fun k => cell_of_row _ g k _ _ _ e4
  refine ⟨fun j hj => ⟨?_, frozen_of_row w g _ _ _ h1⟩, ⟨⟨_, e4, by simp [h2]⟩, fun i hi => ?_⟩, ⟨by rw [four_cells]; rfl, by rw [four_cells]; rfl, by rw [four_cells]; rfl, by omega, fun b _ hb => hoth b hb⟩⟩
  · rw [cell_of_row w g _ _ _ _ h1, Option.isSome_iff_ne_none]
    intro e
    rw [Array.getElem?_eq_none_iff] at e
    omega
  · by_cases hiq : i < ts.length
    · have e : (ts ++ [t])[i] = ts[i] := List.getElem_append_left hiq
      rw [e]
      refine (h.got i hiq).imp' (fun _ h => h) (fun b hb _ => hoth b hb.2) _ _ _ fun j hj => ?_
      rw [hcell, cell_of_row w g _ _ _ _ h1]
      simp only [Array.getElem?_setIfInBounds]
      rw [if_neg (by omega), if_neg (by omega), if_neg (by omega), if_neg (by omega)]
    · obtain rfl : i = q := by simp at hi; omega
      have e : (ts ++ [t])[i] = t := by rw [List.getElem_append_right (by omega)]; simp
      rw [e]
      have hi4 : i * 4 + 3 < cs.size := by omega
      refine TmAt.mk' (a := a) (cap := c) ?_ ?_ ?_ ?_ ((IsTm.args ht).imp (fun _ h => h) fun b hb _ => hoth b hb.2)
      · rw [hcell]; simp only [Array.getElem?_setIfInBounds, Array.size_setIfInBounds]; rw [if_neg (by omega), if_neg (by omega), if_neg (by omega), if_pos trivial, if_pos (by omega)]
      · rw [hcell]; simp only [Array.getElem?_setIfInBounds, Array.size_setIfInBounds]; rw [if_neg (by omega), if_neg (by omega), if_pos trivial, if_pos (by omega)]
      · rw [hcell]; simp only [Array.getElem?_setIfInBounds, Array.size_setIfInBounds]; rw [if_neg (by omega), if_pos trivial, if_pos (by omega)]
      · rw [hcell]; simp only [Array.getElem?_setIfInBounds, Array.size_setIfInBounds]; rw [if_pos trivial, if_pos (by omega)]
theorem Fill.sl {w : World} {g n B : Nat} {ts : List Tm} (h : Fill w g n B ts) (hn : ts.length = n) (hB : B ≤ g) : IsSl w (fun b => B ≤ b) (.slice (some ⟨g, 0, none⟩) n n) ts := by
  subst hn
  refine IsSl.mk' fun i hi => ⟨g, 0, rfl, hB, ?_⟩
  rw [Nat.zero_add]
  exact (h.got i hi).imp' (fun b hb => hb.1) (fun _ _ _ => rfl) _ _ _ fun _ _ => rfl

end Go.Proofs.Ytkhchmgdaolojaa.Tms
