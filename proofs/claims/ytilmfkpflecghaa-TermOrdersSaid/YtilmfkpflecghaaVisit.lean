
/-
  term.walk of the program with whatever visitor: what the visitor keeps is told by two words: what its memory reads as once it has seen these parts ('Sig'), and which blocks are its own ('Mine').
-/
import Derived.Test.YtilmfkpflecghaaWalk
import Derived.Test.YtilmfkpflecghaaCmp
import Derived.Test.YtilmfkpflecghaaChn
namespace Go.Proofs.Ytilmfkpflecghaa.Tms
open Go Go.RowKit Go.Proofs.Ytilmfkpflecghaa.Reg Go.Proofs.Ytilmfkpflecghaa.Rws
set_option linter.unusedVariables false

/-- what a visitor keeps -/
structure Vis where
  Sig : List (Tm × Int) → World → Prop
  Mine : List (Tm × Int) → World → Nat → Prop
  keep : ∀ {D W W'}, Sig D W → W.heap.size ≤ W'.heap.size → (∀ b, b < W.heap.size → Mine D W b → W'.heap[b]? = W.heap[b]?) → Sig D W' ∧ ∀ b, Mine D W' b → Mine D W b
  low : ∀ {D W b}, Sig D W → Mine D W b → b < W.heap.size
theorem Vis.below (V : Vis) {D : List (Tm × Int)} {W W' : World} (h : V.Sig D W) (hb : Below W.heap.size W W') : V.Sig D W' ∧ ∀ b, V.Mine D W' b → V.Mine D W b := V.keep h hb.size fun b hlt _ => hb.block b hlt
/-- what a call of the visitor leaves -/
def Seen (V : Vis) (D : List (Tm × Int)) (p : Tm × Int) (W : World) (e : Ending) (w' : World) : Prop :=
  e = .returned (.tuple #[]) ∧ V.Sig (D ++ [p]) w' ∧ Keeps W w' (V.Mine D W) ∧ ∀ b, V.Mine (D ++ [p]) w' b → V.Mine D W b ∨ W.heap.size ≤ b

structure WkInv (V : Vis) (w : World) (Q : Nat → Prop) (D : List (Tm × Int)) (g cap n : Nat) (l : List (Tm × Int)) (wr : World) : Prop where
  len : l.length = n
  own : Own abKind wr (w.heap.size + 1) Q (.slice (some ⟨g, 0, none⟩) n cap) l
  keeps : Keeps w wr (V.Mine [] w)
  big : w.heap.size + 1 ≤ wr.heap.size
  sig : V.Sig D wr
  mine : ∀ b, V.Mine D wr b → V.Mine [] w b ∨ w.heap.size ≤ b
  notg : ¬ V.Mine D wr g
def WkRel (V : Vis) (t : Tm) (w : World) (Q : Nat → Prop) (k : Nat) (v4 : Value) (wr : World) : Prop :=
  ∃ (D l : List (Tm × Int)) (g cap n : Nat), v4 = .slice (some ⟨g, 0, none⟩) n cap ∧ WkInv V w Q D g cap n l wr ∧ parts 1 t = D ++ partsS l.reverse ∧ sumA l ≤ k ∧ k ≤ t.size ∧ ∀ p ∈ l, 1 ≤ p.2 ∧ p.2 + p.1.size ≤ t.size + 1

theorem wk_start (V : Vis) (t : Tm) (w : World) (Q : Nat → Prop) (a : Option Addr) (c : Nat) (hQ : ∀ b, Q b → b < w.heap.size) (h : IsTm w Q (.agg #[.int .i64 t.k, .int .i64 t.n, .string t.s, .slice a t.args.length c]) t) (hs : V.Sig [] w) :
    WkRel V t w Q t.size (.slice (some ⟨w.heap.size + 1, 0, none⟩) 1 1) ((w.alloc (.cells #[.int .i64 t.k, .int .i64 t.n, .string t.s, .slice a t.args.length c] 29 (0, 0))).alloc
      (.cells #[.int .i64 t.k, .int .i64 t.n, .string t.s, .slice a t.args.length c, .int .i64 1] 153 (0, 0))) := by
  have hb0 : Below w.heap.size w (w.alloc (.cells #[.int .i64 t.k, .int .i64 t.n, .string t.s, .slice a t.args.length c] 29 (0, 0))) := (Below.refl _ _).alloc (Nat.le_refl _) _
  have hz : (w.alloc (.cells #[.int .i64 t.k, .int .i64 t.n, .string t.s, .slice a t.args.length c] 29 (0, 0))).heap.size = w.heap.size + 1 := by simp
  generalize w.alloc (.cells #[.int .i64 t.k, .int .i64 t.n, .string t.s, .slice a t.args.length c] 29 (0, 0)) = w2 at *
  have hb : Below w2.heap.size w2 (w2.alloc (.cells #[.int .i64 t.k, .int .i64 t.n, .string t.s, .slice a t.args.length c, .int .i64 1] 153 (0, 0))) := (Below.refl _ _).alloc (Nat.le_refl _) _
  have hbel := hb0.trans (hb.mono (by omega))
  have hk := V.below hs hbel
  refine ⟨[], [(t, 1)], w.heap.size + 1, 1, 1, rfl, ⟨rfl, ⟨[[.int .i64 t.k, .int .i64 t.n, .string t.s, .slice a t.args.length c, .int .i64 1]], ?_, ⟨⟨a, c, rfl, ?_⟩, trivial⟩⟩, Keeps.of hbel, by simp; omega, hk.1, fun b hb => .inl (hk.2 b hb), fun hm => ?_⟩, by simp [partsS], by simp [sumA], Nat.le_refl _, fun p hp => ?_⟩
  · rw [show w.heap.size + 1 = w2.heap.size by omega]
    exact World.ownsRow_lit w2 _ 1 (by omega) (by decide) rfl
  · obtain ⟨a', c', e, h'⟩ := h
    simp at e
    obtain ⟨rfl, rfl⟩ := e
    exact ArgsFrom.imp (fun b h => ⟨h, by have := hQ b h; simp [Value.ownBlock]; omega, by have := hQ b h; simp; omega⟩) (fun b h _ => hbel.block b (hQ b h)) _ _ _ h'
  · have := V.low hs (hk.2 _ hm)
    omega
  · obtain rfl : p = (t, 1) := by simpa using hp
    exact ⟨by show (1 : Int) ≤ 1; omega, by show (1 : Int) + (t.size : Int) ≤ _; omega⟩

/-- a slice of one part, in a row of its own -/
def NewRow5 (cs : Array Value) (v : Value) (u : World) : Prop := ∃ b, v = .slice (some ⟨b, 0, none⟩) 1 1 ∧ u.heap[b]? = some (.cells cs 153 (0, 0))

structure WkIn (V : Vis) (w : World) (Q : Nat → Prop) (D : List (Tm × Int)) (s5 : Nat) (x : Tm) (d : Int) (xa : Option Addr) (xc : Nat) (l' : List (Tm × Int)) (q g cap n : Nat) (wr : World) : Prop where
  len : n = l'.length + (x.args.length - q)
  own : Own abKind wr (w.heap.size + 1) Q (.slice (some ⟨g, 0, none⟩) n cap) (l' ++ ((x.args.drop q).map fun t => (t, d + 1)).reverse)
  keeps : Keeps w wr (V.Mine [] w)
  sig : V.Sig D wr
  mine : ∀ b, V.Mine D wr b → V.Mine [] w b ∨ w.heap.size ≤ b
  notg : ¬ V.Mine D wr g
  box : wr.heap[s5]? = some (.cells #[.int .i64 x.k, .int .i64 x.n, .string x.s, .slice xa x.args.length xc, .int .i64 d] 153 (0, 0))
  ne : g ≠ s5
  low : w.heap.size + 1 ≤ s5 ∧ s5 < wr.heap.size
  xi : IsTm wr Q (.agg #[.int .i64 x.k, .int .i64 x.n, .string x.s, .slice xa x.args.length xc]) x
def WkInRel (V : Vis) (w : World) (Q : Nat → Prop) (D : List (Tm × Int)) (s5 : Nat) (x : Tm) (d : Int) (xa : Option Addr) (xc : Nat) (l' : List (Tm × Int)) (v4 v6 : Value) (wr : World) : Prop :=
  ∃ q g cap n, q ≤ x.args.length ∧ v6 = .int .i64 ((q : Int) - 1) ∧ v4 = .slice (some ⟨g, 0, none⟩) n cap ∧ WkIn V w Q D s5 x d xa xc l' q g cap n wr
end Go.Proofs.Ytilmfkpflecghaa.Tms
