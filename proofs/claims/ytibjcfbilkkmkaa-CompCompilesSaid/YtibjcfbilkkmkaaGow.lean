
/-
  goal.own walked over the program: what it returns reads as what it was given, its topmost Args in a row of the call's own.
-/
import Derived.Test.YtibjcfbilkkmkaaGnb
namespace Go.Proofs.Ytibjcfbilkkmkaa.Tms
open Go Go.RowKit Go.Proofs.Ytibjcfbilkkmkaa.Reg
set_option linter.unusedVariables false

/-- the topmost Args lie in a row of the call's own -/
def TopOwn (B : Nat) (t : Tm) (S : Nat → Prop) (wr : World) : Prop := ∃ a c, wr.cell? ⟨B, 3, none⟩ = some (.slice a t.args.length c) ∧ (t.args ≠ [] → ∃ g, a = some ⟨g, 0, none⟩ ∧ S g)
def Top (B : Nat) (t : Tm) (S : Nat → Prop) (l : List (Nat × Nat × Tm)) (wr : World) : Prop := l = [(B, 0, t)] ∨ TopOwn B t S wr
theorem Top.pop {B : Nat} {t : Tm} {S : Nat → Prop} {l : List (Nat × Nat × Tm)} {x : Nat × Nat × Tm} {wr : World} (h : Top B t S (l ++ [x]) wr) : x = (B, 0, t) ∨ TopOwn B t S wr := by
  rcases h with h | h
  · left
    cases l with
    | nil => simpa using h
    | cons y l => simp at h
  · exact .inr h
theorem top_end {B : Nat} {t : Tm} {S : Nat → Prop} {wr : World} {a : Option Addr} {c : Nat} (h : Top B t S [] wr) (x3 : wr.cell? ⟨B, 3, none⟩ = some (.slice a t.args.length c)) : t.args ≠ [] → ∃ g, a = some ⟨g, 0, none⟩ ∧ S g := by
  rcases h with h | ⟨a', c', h1, h2⟩
  · cases h
  · rw [x3] at h1
    simp only [Option.some.injEq, Value.slice.injEq, true_and] at h1
    obtain ⟨rfl, -⟩ := h1
    exact h2
theorem top_nil {B xb xo : Nat} {t : Tm} {S : Nat → Prop} {wr : World} {xk xn : Int} {xs : ByteArray} {ba : Option Addr} {bc : Nat} (h : (xb, xo, Tm.mk xk xn xs []) = (B, 0, t) ∨ TopOwn B t S wr) (x3 : wr.cell? ⟨xb, xo + 3, none⟩ = some (.slice ba 0 bc)) :
    TopOwn B t S (wr.setCell ⟨xb, xo + 3, none⟩ (.slice none 0 0)) := by
  have hsame : xb = B → xo = 0 → t.args = [] → TopOwn B t S (wr.setCell ⟨xb, xo + 3, none⟩ (.slice none 0 0)) := by
    rintro rfl rfl ht
    exact ⟨none, 0, by rw [ht]; exact cell_setCell_eq x3, fun h => absurd ht h⟩
  rcases h with h | ⟨a, c, h1, h2⟩
  · simp only [Prod.mk.injEq] at h
    obtain ⟨rfl, rfl, rfl⟩ := h
    exact hsame rfl rfl rfl
  · by_cases e : B = xb ∧ 3 = xo + 3
    · obtain ⟨rfl, e2⟩ := e
      obtain rfl : xo = 0 := by omega
      rw [x3] at h1
      simp only [Option.some.injEq, Value.slice.injEq] at h1
      exact hsame rfl rfl (List.eq_nil_of_length_eq_zero h1.2.1.symm)
    · exact ⟨a, c, by rw [cell_setCell_ne e]; exact h1, h2⟩
theorem top_turn {B xb xo g2 : Nat} {t : Tm} {S : Nat → Prop} {wr w2 : World} {xk xn : Int} {xs : ByteArray} {xa : List Tm} {ba : Option Addr} {bc m : Nat} (h : (xb, xo, Tm.mk xk xn xs xa) = (B, 0, t) ∨ TopOwn B t S wr) (hw : w2.cell? ⟨B, 3, none⟩ = wr.cell? ⟨B, 3, none⟩)
    (x3 : w2.cell? ⟨xb, xo + 3, none⟩ = some (.slice ba xa.length bc)) (hm : m = xa.length) : TopOwn B t (fun b => S b ∨ b = g2) (w2.setCell ⟨xb, xo + 3, none⟩ (.slice (some ⟨g2, 0, none⟩) m m)) := by
  subst hm
  have hsame : xb = B → xo = 0 → t.args.length = xa.length → TopOwn B t (fun b => S b ∨ b = g2) (w2.setCell ⟨xb, xo + 3, none⟩ (.slice (some ⟨g2, 0, none⟩) xa.length xa.length)) := by
    rintro rfl rfl ht
    exact ⟨_, _, by rw [ht]; exact cell_setCell_eq x3, fun _ => ⟨g2, rfl, .inr rfl⟩⟩
  rcases h with h | ⟨a, c, h1, h2⟩
  · simp only [Prod.mk.injEq] at h
    obtain ⟨rfl, rfl, rfl⟩ := h
    exact hsame rfl rfl rfl
  · by_cases e : B = xb ∧ 3 = xo + 3
    · obtain ⟨rfl, e2⟩ := e
      obtain rfl : xo = 0 := by omega
      rw [← hw, x3] at h1
      simp only [Option.some.injEq, Value.slice.injEq] at h1
      exact hsame rfl rfl h1.2.1.symm
    · exact ⟨a, c, by rw [cell_setCell_ne e, hw]; exact h1, fun h => let ⟨g, e1, e2⟩ := h2 h; ⟨g, e1, .inl e2⟩⟩
/-- a row of the program's own, that may be written -/
def PlainG (w : World) (b : Nat) : Prop := ∃ cur, w.heap[b]? = some (.cells cur 30 (0, 0))
/-- a term that the call made: its topmost Args may be written -/
def GowPost (P : Nat → Prop) (t : Tm) (w : World) (e : Ending) (w' : World) : Prop := ∃ a c, e = .returned (.agg #[.int .i64 t.k, .int .i64 t.n, .string t.s, .slice a t.args.length c]) ∧ IsTm w' (fun b => P b ∨ w.heap.size ≤ b) (.agg #[.int .i64 t.k, .int .i64 t.n, .string t.s, .slice a t.args.length c]) t ∧
  (t.args ≠ [] → ∃ g, a = some ⟨g, 0, none⟩ ∧ w.heap.size ≤ g ∧ PlainG w' g) ∧ Below w.heap.size w w'
theorem gow_end {t : Tm} {P S : Nat → Prop} {w wr : World} {l : List (Nat × Nat × Tm)} {a : Option Addr} {c : Nat} {cs : Array Value} (inv : OwnInv t (fun b => P b ∧ b < w.heap.size) S w w.heap.size l wr) (htop : t.args ≠ [] → ∃ g, a = some ⟨g, 0, none⟩ ∧ S g)
    (it : IsTm wr (SP (fun b => P b ∧ b < w.heap.size) S) (.agg #[.int .i64 t.k, .int .i64 t.n, .string t.s, .slice a t.args.length c]) t) :
    GowPost P t w (.returned (.agg #[.int .i64 t.k, .int .i64 t.n, .string t.s, .slice a t.args.length c])) (wr.setRow (w.heap.size + 1) cs) := by
  obtain ⟨v, e, h1, h2⟩ := own_end (cs := cs) inv it
  obtain rfl := Ending.returned.inj e
  refine ⟨a, c, rfl, h1, fun h => ?_, h2⟩
  obtain ⟨g, e1, e2⟩ := htop h
  obtain ⟨h3, h4, cur, h5⟩ := inv.mine g e2
  exact ⟨g, e1, h3, cur, (setRow_other _ _ _ _ h4).trans h5⟩

end Go.Proofs.Ytibjcfbilkkmkaa.Tms
