
/-
  Layer 15: bodies and their goals, in plain Lean; a variable of a term's type in memory.
-/
import Derived.Test.YtmlceamcpelklaaPl5
import Derived.Test.YtmlceamcpelklaaGfl
namespace Go.Proofs.Ytmlceamcpelklaa.Tms
open Go Go.RowKit
set_option linter.unusedVariables false

theorem IsSl.lt {w : World} {P : Nat → Prop} {v : Value} {ts : List Tm} (h : IsSl w P v ts) : IsSl w (fun b => P b ∧ b < w.heap.size) v ts :=
  let ⟨a, cap, e, h⟩ := h; ⟨a, cap, e, ArgsFrom.lt _ _ _ h⟩
theorem clsT_wsize (t : Tm) : (clsT t).2.2.2.size ≤ t.size + 1 := by
  have hz : zeroTm.size = 1 := by decide +kernel
  have hp := size_pos t
  have hH : (headC t).size ≤ t.size := by
    unfold headC
    split
    · next h => have := rule_size h; omega
    · exact Nat.le_refl _
  have hR : (restC t).size ≤ t.size + 1 := by
    unfold restC
    split
    · next h => have := rule_size h; omega
    · simp [atomT, Tm.size, sizeL]
  unfold clsT
  repeat' split
  all_goals simp only <;> omega
abbrev commaS : ByteArray := (⟨#[44]⟩ : ByteArray)
theorem comma_kind (x y : Tm) : kindT (compT (⟨#[44]⟩ : ByteArray) [x, y]) = 2 := by rw [kindT_two]; decide +kernel
theorem comma_pair (x y : Tm) : isPair (compT (⟨#[44]⟩ : ByteArray) [x, y]) = true := by unfold isPair; rw [comma_kind]; decide
theorem comma_body (x y : Tm) : bodyT (compT (⟨#[44]⟩ : ByteArray) [x, y]) = if (bodyT x).2 = false then (zeroTm, false) else if (bodyT y).2 = false then (zeroTm, false) else (compT (⟨#[44]⟩ : ByteArray) [(bodyT x).1, (bodyT y).1], true) := by
  rw [bodyT_eq, if_neg (by simp [compT, Tm.k]), if_pos (comma_pair x y)]
  rfl
theorem comma_flat (x y : Tm) : flatG (compT (⟨#[44]⟩ : ByteArray) [x, y]) = flatG x ++ flatG y := by
  rw [flatG_eq, if_pos (comma_kind x y)]
  rfl
theorem comma_may {x y : Tm} (hx : mayT x = true) (hy : mayT y = true) : mayT (compT (⟨#[44]⟩ : ByteArray) [x, y]) = true := comp_may (by decide +kernel) (by simp) (by simp) (by simp [mayTL, hx, hy])
theorem comma_size (x y : Tm) : (compT (⟨#[44]⟩ : ByteArray) [x, y]).size = x.size + y.size + 1 := by simp [compT, Tm.size, sizeL]
/-- the goals of a body: none is a comma, each is a goal -/
theorem flat_kind : ∀ (n : Nat) (t : Tm), t.size ≤ n → mayT t = true → bodyT t = (t, true) → ∀ g ∈ flatG t, kindT g ≠ 2 ∧ 0 ≤ kindT g
  | 0, t, h, _, _ => by have := size_pos t; omega
  | n + 1, t, h, hm, hb => by
    intro g hg
    rw [flatG_eq] at hg
    by_cases k2 : kindT t = 2
    · rw [if_pos k2] at hg
      have hp : isPair t = true := by simp [isPair, k2]
      have hs := pair_size hp
      obtain ⟨h4, ha⟩ := pair_args hp
      rw [bodyT_eq, if_neg (by omega), if_pos hp] at hb
      have h1 : (bodyT (lftT t)).2 = true := by
        cases h1 : (bodyT (lftT t)).2
        · rw [h1] at hb; simp at hb
        · rfl
      rw [if_neg (by rw [h1]; simp)] at hb
      have h2 : (bodyT (rgtT t)).2 = true := by
        cases h2 : (bodyT (rgtT t)).2
        · rw [h2] at hb; simp at hb
        · rfl
      rw [if_neg (by rw [h2]; simp)] at hb
      have e : [(bodyT (lftT t)).1, (bodyT (rgtT t)).1] = t.args := congrArg (fun x => x.1.args) hb
      rw [ha] at e
      simp only [List.cons.injEq, and_true] at e
      have e1 : bodyT (lftT t) = (lftT t, true) := Prod.ext e.1 h1
      have e2 : bodyT (rgtT t) = (rgtT t, true) := Prod.ext e.2 h2
      rcases List.mem_append.1 hg with hg | hg
      · exact flat_kind n (lftT t) (by omega) (may_arg hm (by rw [ha]; simp)) e1 g hg
      · exact flat_kind n (rgtT t) (by omega) (may_arg hm (by rw [ha]; simp)) e2 g hg
    · rw [if_neg k2] at hg
      obtain rfl : g = t := by simpa using hg
      refine ⟨k2, kindT_pos ?_⟩
      have hk := may_kind hm
      have := (body_idem _ g (Nat.le_refl _) (by rw [hb])).2
      rw [hb] at this
      have h1 : g.k ≠ 1 := this.1
      have h2 : g.k ≠ 2 := this.2
      omega
/-- what GoalBodies says, of terms -/
theorem bodies_law (L M : List Pt) (hL : L.length ≤ 60) (hM : M.length ≤ 60) :
    ((bodE (goodT L)).2 ≠ 0 ∨ (bodE (goodT M)).2 ≠ 0 → (bodE (compT (⟨#[44]⟩ : ByteArray) [goodT L, goodT M])).2 = 13) ∧
    ((bodE (goodT L)).2 = 0 → (bodE (goodT M)).2 = 0 → bodE (compT (⟨#[44]⟩ : ByteArray) [goodT L, goodT M]) = (compT (⟨#[44]⟩ : ByteArray) [(bodE (goodT L)).1, (bodE (goodT M)).1], 0) ∧ bodE (bodE (goodT L)).1 = ((bodE (goodT L)).1, 0) ∧
      ∀ g ∈ flatG (compT (⟨#[44]⟩ : ByteArray) [(bodE (goodT L)).1, (bodE (goodT M)).1]), kindT g ≠ 2 ∧ 0 ≤ kindT g) := by
  have z1 := goodT_size L
  have z2 := goodT_size M
  have m1 := good_may L
  have m2 := good_may M
  generalize goodT L = x at *
  generalize goodT M = y at *
  have b1 := bodyT_size x
  have b2 := bodyT_size y
  have hs := comma_size x y
  rw [bodE_good m1 (by omega), bodE_good m2 (by omega), bodE_good (comma_may m1 m2) (by omega), comma_body]
  cases h1 : (bodyT x).2
  · simp
  cases h2 : (bodyT y).2
  · simp
  simp only [if_true]
  have i1 := body_again h1
  have i2 := body_again h2
  have n1 := body_may _ x (Nat.le_refl _) m1 h1
  have n2 := body_may _ y (Nat.le_refl _) m2 h2
  generalize (bodyT x).1 = p at *
  generalize (bodyT y).1 = q at *
  refine ⟨fun h => by simp at h, fun _ _ => ⟨by simp, ?_, ?_⟩⟩
  · rw [bodE_good n1 (by omega), i1]; simp
  · intro g hg
    rw [comma_flat] at hg
    rcases List.mem_append.1 hg with hg | hg
    · exact flat_kind _ p (Nat.le_refl _) n1 i1 g hg
    · exact flat_kind _ q (Nat.le_refl _) n2 i2 g hg

theorem flatG_size : ∀ (n : Nat) (t : Tm), t.size ≤ n → sizeL (flatG t) ≤ t.size
  | 0, t, h => by have := size_pos t; omega
  | n + 1, t, h => by
    have app : ∀ l m : List Tm, sizeL (l ++ m) = sizeL l + sizeL m := by
      intro l m
      induction l with
      | nil => simp [sizeL]
      | cons t l ih => simp only [List.cons_append, sizeL, ih]; omega
    rw [flatG_eq]
    by_cases k2 : kindT t = 2
    · have hp : isPair t = true := by simp [isPair, k2]
      have hs := pair_size hp
      have h1 := flatG_size n (lftT t) (by omega)
      have h2 := flatG_size n (rgtT t) (by omega)
      rw [if_pos k2, app]; omega
    · rw [if_neg k2]; simp [sizeL]
theorem flatG_pos : ∀ (n : Nat) (t : Tm), t.size ≤ n → 0 < (flatG t).length
  | 0, t, h => by have := size_pos t; omega
  | n + 1, t, h => by
    rw [flatG_eq]
    by_cases k2 : kindT t = 2
    · have hp : isPair t = true := by simp [isPair, k2]
      have hs := pair_size hp
      have h1 := flatG_pos n (lftT t) (by omega)
      rw [if_pos k2]; simp; omega
    · rw [if_neg k2]; simp
/-- a variable of a term's type -/
structure Var (w : World) (b : Nat) (t : Tm) (a : Option Addr) (c : Nat) : Prop where
  row : w.heap[b]? = some (rowT t a c)
  is : IsTm w AnyB (aggT t a c) t
theorem Var.lt {w : World} {b : Nat} {t : Tm} {a : Option Addr} {c : Nat} (h : Var w b t a c) : b < w.heap.size := (Array.getElem?_eq_some_iff.1 h.row).1
theorem Var.below {w w' : World} {b : Nat} {t : Tm} {a : Option Addr} {c : Nat} (h : Var w b t a c) (hb : Below w.heap.size w w') : Var w' b t a c := ⟨(hb.block b h.lt).trans h.row, h.is.below hb⟩
theorem Var.new {w : World} {P : Nat → Prop} {t : Tm} {a : Option Addr} {c : Nat} (h : IsTm w P (aggT t a c) t) : Var (w.alloc (rowT t a c)) w.heap.size t a c := ⟨heap_alloc_new _ _, (h.any).below ((Below.refl _ _).alloc (Nat.le_refl _) _)⟩
theorem Var.drew {w : World} {b : Nat} {t : Tm} {a : Option Addr} {c : Nat} (h : Var w b t a c) : Var w.drew b t a c := h.below (Below.refl _ _).drew
theorem below_new (w : World) (o : Obj) : Below w.heap.size w (w.alloc o) := (Below.refl _ _).alloc (Nat.le_refl _) _
end Go.Proofs.Ytmlceamcpelklaa.Tms
