
/-
  goal.own walked over the program: what it returns reads as what it was given, its topmost Args in a row of the call's own.
-/
import Derived.Test.YtoklbeogmcdgaaaGnb
namespace Go.Proofs.Ytoklbeogmcdgaaa.Tms
open Go Go.RowKit Go.Proofs.Ytoklbeogmcdgaaa.Reg
set_option linter.unusedVariables false

/-- the topmost Args lie in a row of the call's own -/
def TopOwn (B : Nat) (t : Tm) (S : Nat → Prop) (wr : World) : Prop := ∃ a c, wr.cell? ⟨B, 3, none⟩ = some (.slice a t.args.length c) ∧ (t.args ≠ [] → ∃ g, a = some ⟨g, 0, none⟩ ∧ S g)
def Top (B : Nat) (t : Tm) (S : Nat → Prop) (l : List (Nat × Nat × Tm)) (wr : World) : Prop := l = [(B, 0, t)] ∨ TopOwn B t S wr
theorem Top.pop {B : Nat} {t : Tm} {S : Nat → Prop} {l : List (Nat × Nat × Tm)} {x : Nat × Nat × Tm} {wr : World} (h : Top B t S (l ++ [x]) wr) : x = (B, 0, t) ∨ TopOwn B t S wr := by
  rcases h with h | h
  · left
    cases l with
    | nil => simpa using h
    | cons y l => simp at h
  · exact .inr h
theorem top_end {B : Nat} {t : Tm} {S : Nat → Prop} {wr : World} {a : Option Addr} {c : Nat} (h : Top B t S [] wr) (x3 : wr.cell? ⟨B, 3, none⟩ = some (.slice a t.args.length c)) : t.args ≠ [] → ∃ g, a = some ⟨g, 0, none⟩ ∧ S g := by
  rcases h with h | ⟨a', c', h1, h2⟩
  · cases h
  · rw [x3] at h1
    simp only [Option.some.injEq, Value.slice.injEq, true_and] at h1
    obtain ⟨rfl, -⟩ := h1
    exact h2
theorem top_nil {B xb xo : Nat} {t : Tm} {S : Nat → Prop} {wr : World} {xk xn : Int} {xs : ByteArray} {ba : Option Addr} {bc : Nat} (h : (xb, xo, Tm.mk xk xn xs []) = (B, 0, t) ∨ TopOwn B t S wr) (x3 : wr.cell? ⟨xb, xo + 3, none⟩ = some (.slice ba 0 bc)) :
    TopOwn B t S (wr.setCell ⟨xb, xo + 3, none⟩ (.slice none 0 0)) := by
  have hsame : xb = B → xo = 0 → t.args = [] → TopOwn B t S (wr.setCell ⟨xb, xo + 3, none⟩ (.slice none 0 0)) := by
    rintro rfl rfl ht
    exact ⟨none, 0, by rw [ht]; exact cell_setCell_eq x3, fun h => absurd ht h⟩
  rcases h with h | ⟨a, c, h1, h2⟩
  · simp only [Prod.mk.injEq] at h
    obtain ⟨rfl, rfl, rfl⟩ := h
    exact hsame rfl rfl rfl
  · by_cases e : B = xb ∧ 3 = xo + 3
    · obtain ⟨rfl, e2⟩ := e
      obtain rfl : xo = 0 := by omega
      rw [x3] at h1
      simp only [Option.some.injEq, Value.slice.injEq] at h1
      exact hsame rfl rfl (List.eq_nil_of_length_eq_zero h1.2.1.symm)
    · exact ⟨a, c, by rw [cell_setCell_ne e]; exact h1, h2⟩
theorem top_turn {B xb xo g2 : Nat} {t : Tm} {S : Nat → Prop} {wr w2 : World} {xk xn : Int} {xs : ByteArray} {xa : List Tm} {ba : Option Addr} {bc m : Nat} (h : (xb, xo, Tm.mk xk xn xs xa) = (B, 0, t) ∨ TopOwn B t S wr) (hw : w2.cell? ⟨B, 3, none⟩ = wr.cell? ⟨B, 3, none⟩)
    (x3 : w2.cell? ⟨xb, xo + 3, none⟩ = some (.slice ba xa.length bc)) (hm : m = xa.length) : TopOwn B t (fun b => S b ∨ b = g2) (w2.setCell ⟨xb, xo + 3, none⟩ (.slice (some ⟨g2, 0, none⟩) m m)) := by
  subst hm
  have hsame : xb = B → xo = 0 → t.args.length = xa.length → TopOwn B t (fun b => S b ∨ b = g2) (w2.setCell ⟨xb, xo + 3, none⟩ (.slice (some ⟨g2, 0, none⟩) xa.length xa.length)) := by
    rintro rfl rfl ht
    exact ⟨_, _, by rw [ht]; exact cell_setCell_eq x3, fun _ => ⟨g2, rfl, .inr rfl⟩⟩
  rcases h with h | ⟨a, c, h1, h2⟩
  · simp only [Prod.mk.injEq] at h
    obtain ⟨rfl, rfl, rfl⟩ := h
    exact hsame rfl rfl rfl
  · by_cases e : B = xb ∧ 3 = xo + 3
    · obtain ⟨rfl, e2⟩ := e
      obtain rfl : xo = 0 := by omega
      rw [← hw, x3] at h1
      simp only [Option.some.injEq, Value.slice.injEq] at h1
      exact hsame rfl rfl h1.2.1.symm
    · exact ⟨a, c, by rw [cell_setCell_ne e, hw]; exact h1, fun h => let ⟨g, e1, e2⟩ := h2 h; ⟨g, e1, .inl e2⟩⟩
theorem top_push {t : Tm} {P S : Nat → Prop} {w : World} {B : Nat} {l : List (Nat × Nat × Tm)} {wr w' : World} {g cap n : Nat} {x : Value} (hs : Stack B g cap n l wr) (h : OwnInv t P S w B l wr) (ht : TopOwn B t S wr)
    (hg : (wr.alloc (.cells #[x] 165 (0, 0))).grownBy w' (some g)) : TopOwn B t S w' := by
  obtain ⟨cg, hcg, hBg⟩ := hs.blk
  obtain ⟨-, -, cur, hc⟩ := h.mine B h.root.1
  have hlt := (Array.getElem?_eq_some_iff.1 hc).1
  have hk : w'.heap[B]? = wr.heap[B]? := (hg.block B (by simp; omega) fun e => by
    cases e
    rw [hcg] at hc
    simp at hc).trans (heap_alloc_old _ _ hlt)
  obtain ⟨a, c, h1, h2⟩ := ht
  exact ⟨a, c, (World.cell?_of_block (a := ⟨B, 3, none⟩) hk).trans h1, h2⟩
/-- a row of the program's own, that may be written -/
def PlainG (w : World) (b : Nat) : Prop := ∃ cur, w.heap[b]? = some (.cells cur 33 (0, 0))
/-- a term that the call made: its topmost Args may be written -/
def GowPost (P : Nat → Prop) (t : Tm) (w : World) (e : Ending) (w' : World) : Prop := ∃ a c, e = .returned (.agg #[.int .i64 t.k, .int .i64 t.n, .string t.s, .slice a t.args.length c]) ∧ IsTm w' (fun b => P b ∨ w.heap.size ≤ b) (.agg #[.int .i64 t.k, .int .i64 t.n, .string t.s, .slice a t.args.length c]) t ∧
  (t.args ≠ [] → ∃ g, a = some ⟨g, 0, none⟩ ∧ w.heap.size ≤ g ∧ PlainG w' g) ∧ Below w.heap.size w w'
theorem gow_end {t : Tm} {P S : Nat → Prop} {w wr : World} {l : List (Nat × Nat × Tm)} {a : Option Addr} {c : Nat} {cs : Array Value} (inv : OwnInv t (fun b => P b ∧ b < w.heap.size) S w w.heap.size l wr) (htop : t.args ≠ [] → ∃ g, a = some ⟨g, 0, none⟩ ∧ S g)
    (it : IsTm wr (SP (fun b => P b ∧ b < w.heap.size) S) (.agg #[.int .i64 t.k, .int .i64 t.n, .string t.s, .slice a t.args.length c]) t) :
    GowPost P t w (.returned (.agg #[.int .i64 t.k, .int .i64 t.n, .string t.s, .slice a t.args.length c])) (wr.setRow (w.heap.size + 1) cs) := by
  obtain ⟨v, e, h1, h2⟩ := own_end (cs := cs) inv it
  obtain rfl := Ending.returned.inj e
  refine ⟨a, c, rfl, h1, fun h => ?_, h2⟩
  obtain ⟨g, e1, e2⟩ := htop h
  obtain ⟨h3, h4, cur, h5⟩ := inv.mine g e2
  exact ⟨g, e1, h3, cur, (setRow_other _ _ _ _ h4).trans h5⟩

def GowRel (t : Tm) (P : Nat → Prop) (w : World) (B k : Nat) (v3 : Value) (wr : World) : Prop :=
  ∃ (S : Nat → Prop) (l : List (Nat × Nat × Tm)) (g cap n : Nat), v3 = .slice (some ⟨g, 0, none⟩) n cap ∧ Stack B g cap n l wr ∧ OwnInv t P S w B l wr ∧ Top B t S l wr ∧ sumSz l ≤ k ∧ k ≤ t.size

theorem gow_start (t : Tm) (P : Nat → Prop) (w : World) (a : Option Addr) (cap : Nat) (h : IsTm w P (.agg #[.int .i64 t.k, .int .i64 t.n, .string t.s, .slice a t.args.length cap]) t) (hP : ∀ b, P b → b < w.heap.size) :
    GowRel t P w w.heap.size t.size (.slice (some ⟨w.heap.size + 1 + 1, 0, none⟩) 1 1) (((w.alloc (.cells #[.int .i64 t.k, .int .i64 t.n, .string t.s, .slice a t.args.length cap] 33 (0, 0))).alloc
      (.cells #[.int .i64 0, .int .i64 0, .string ⟨#[]⟩, .slice none 0 0] 33 (0, 0))).alloc (.cells #[.pointer (some ⟨w.heap.size, 0, none⟩)] 165 (0, 0))) := by
  generalize hw1 : w.alloc (.cells #[.int .i64 t.k, .int .i64 t.n, .string t.s, .slice a t.args.length cap] 33 (0, 0)) = w1
  have s1 : w1.heap.size = w.heap.size + 1 := by rw [← hw1]; simp
  have b1 : Below w.heap.size w w1 := by rw [← hw1]; exact (Below.refl _ _).alloc (Nat.le_refl _) _
  have r1 : w1.heap[w.heap.size]? = some (.cells #[.int .i64 t.k, .int .i64 t.n, .string t.s, .slice a t.args.length cap] 33 (0, 0)) := by rw [← hw1]; exact heap_alloc_new _ _
  generalize hw2 : w1.alloc (.cells #[.int .i64 0, .int .i64 0, .string ⟨#[]⟩, .slice none 0 0] 33 (0, 0)) = w2
  have s2 : w2.heap.size = w.heap.size + 2 := by rw [← hw2]; simp [s1]
  have b2 : Below w1.heap.size w1 w2 := by rw [← hw2]; exact (Below.refl _ _).alloc (Nat.le_refl _) _
  have r2 : w2.heap[w.heap.size + 1]? = some (.cells #[.int .i64 0, .int .i64 0, .string ⟨#[]⟩, .slice none 0 0] 33 (0, 0)) := by rw [← hw2, ← s1]; exact heap_alloc_new _ _
  generalize hw3 : w2.alloc (.cells #[.pointer (some ⟨w.heap.size, 0, none⟩)] 165 (0, 0)) = w3
  have s3 : w3.heap.size = w.heap.size + 3 := by rw [← hw3]; simp [s2]
  have b3 : Below w2.heap.size w2 w3 := by rw [← hw3]; exact (Below.refl _ _).alloc (Nat.le_refl _) _
  have b03 : Below w.heap.size w w3 := b1.trans ((b2.mono (by omega)).trans (b3.mono (by omega)))
  have r13 : w3.heap[w.heap.size]? = some (.cells #[.int .i64 t.k, .int .i64 t.n, .string t.s, .slice a t.args.length cap] 33 (0, 0)) := (b3.block _ (by omega)).trans ((b2.block _ (by omega)).trans r1)
  have h3 : IsTm w3 (SP P fun b => b = w.heap.size) (.agg #[.int .i64 t.k, .int .i64 t.n, .string t.s, .slice a t.args.length cap]) t := h.imp (fun _ h => .inl h) fun b _ hlt => b03.block b hlt
  have root : TmAt w3 (SP P fun b => b = w.heap.size) w.heap.size 0 t := TmAt.mk' (cell_of_row w3 _ _ _ _ _ r13) (cell_of_row w3 _ _ _ _ _ r13) (cell_of_row w3 _ _ _ _ _ r13) (cell_of_row w3 _ _ _ _ _ r13) h3.args
  refine ⟨fun b => b = w.heap.size, [(w.heap.size, 0, t)], w.heap.size + 1 + 1, 1, 1, rfl, ⟨rfl, ?_⟩, ⟨?_, hP, ⟨rfl, root⟩, ?_, b03, (b3.block _ (by omega)).trans r2⟩, .inl rfl, by simp [sumSz], Nat.le_refl _⟩
  · rw [← hw3, show w.heap.size + 1 + 1 = w2.heap.size by omega]
    exact World.ownsRow_lit w2 _ 1 (by omega) (by decide) rfl
  · rintro b rfl
    exact ⟨by omega, by omega, _, r13⟩
  · intro x hx
    simp only [List.mem_singleton] at hx
    subst hx
    exact ⟨rfl, root⟩

def GinRel (t : Tm) (P : Nat → Prop) (w : World) (B : Nat) (S : Nat → Prop) (l0 : List (Nat × Nat × Tm)) (xa : List Tm) (g2 : Nat) (v3 c : Value) (wr : World) : Prop :=
  ∃ (l : List (Nat × Nat × Tm)) (g cap n j : Nat), c = .int .i64 j ∧ j ≤ xa.length ∧ v3 = .slice (some ⟨g, 0, none⟩) n cap ∧ Stack B g cap n l wr ∧ OwnInv t P S w B l wr ∧ TopOwn B t S wr ∧ (∀ i (hi : i < xa.length), TmAt wr (SP P S) g2 (i * 4) xa[i]) ∧ S g2 ∧ sumSz l = sumSz l0 + sizeL (xa.take j)

end Go.Proofs.Ytoklbeogmcdgaaa.Tms
