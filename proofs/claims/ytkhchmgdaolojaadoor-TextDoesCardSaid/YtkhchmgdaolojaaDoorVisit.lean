
/-
  term.walk of the program: its stack; the parts of a term in order.
  term.walk of the program with whatever visitor: what the visitor keeps is told by two words: what its memory reads as once it has seen these parts ('Sig'), and which blocks are its own ('Mine').
-/
import Derived.Test.YtkhchmgdaolojaaDoorBas
import Derived.Test.YtkhchmgdaolojaaDoorMay
import Derived.Test.YtkhchmgdaolojaaDoorGnb
import Derived.Test.YtkhchmgdaolojaaDoorChn
namespace Go.Proofs.YtkhchmgdaolojaaDoor.Tms
open Go Go.RowKit
set_option linter.unusedVariables false

/-- a part, and how deep it stands, in five cells -/
def abKind : Rws.Kind (Tm × Int) where
  T := 95
  sz := 5
  R := fun w P cs a => ∃ q c, cs = [.int .i64 a.1.k, .int .i64 a.1.n, .string a.1.s, .slice q a.1.args.length c, .int .i64 a.2] ∧ ArgsFrom w P q 0 a.1.args
  pos := by decide
  len := by rintro w P cs a ⟨q, c, rfl, -⟩; rfl
  one := by
    rintro w P cs a ⟨q, c, rfl, -⟩ v hv
    simp only [List.mem_cons, List.not_mem_nil, or_false] at hv
    rcases hv with rfl | rfl | rfl | rfl | rfl <;> rfl
  mono := by rintro w w' P P' cs a hP hw ⟨q, c, rfl, h⟩; exact ⟨q, c, rfl, ArgsFrom.imp hP hw _ _ _ h⟩
  lt := by rintro w P cs a ⟨q, c, rfl, h⟩; exact ⟨q, c, rfl, ArgsFrom.lt _ _ _ h⟩

theorem info_above : (Tryd.prog.info? 95).map (fun i => (i.zero, i.size, i.bytes)) = some (some (.agg #[.int .i64 0, .int .i64 0, .string ⟨#[]⟩, .slice none 0 0, .int .i64 0]), 5, 64) := by kernel_rfl

mutual
/-- the parts of a term that stands at this depth, from the left, each ahead of its Args -/
def parts (d : Int) : Tm → List (Tm × Int)
  | .mk k n s a => (.mk k n s a, d) :: partsL (d + 1) a
def partsL (d : Int) : List Tm → List (Tm × Int)
  | [] => []
  | t :: l => parts d t ++ partsL d l
end
/-- of a stack, from its top -/
def partsS : List (Tm × Int) → List (Tm × Int)
  | [] => []
  | p :: l => parts p.2 p.1 ++ partsS l
theorem partsS_app : ∀ l m, partsS (l ++ m) = partsS l ++ partsS m
  | [], m => rfl
  | p :: l, m => by simp [partsS, partsS_app l m]
theorem partsL_map (d : Int) : ∀ l : List Tm, partsL d l = partsS (l.map fun t => (t, d))
  | [] => by simp [partsL, partsS]
  | t :: l => by simp [partsL, partsS, partsL_map d l]
theorem parts_eq (t : Tm) (d : Int) : parts d t = (t, d) :: partsS (t.args.map fun x => (x, d + 1)) := by
  obtain ⟨k, n, s, a⟩ := t
  rw [parts, partsL_map]
  rfl
/-- what take does, over and over -/
def meas (st : Bool × Int × Int) : List (Tm × Int) → Bool × Int × Int
  | [] => st
  | p :: l => meas (st.1 || !mayB p.1.k p.1.n p.1.s p.1.args.length, st.2.1 + 1, max st.2.2 p.2) l
theorem meas_app (st : Bool × Int × Int) : ∀ l m, meas st (l ++ m) = meas (meas st l) m := by
  intro l
  induction l generalizing st with
  | nil => intro m; rfl
  | cons p l ih => intro m; simp only [List.cons_append, meas]; exact ih _ m

/-- grown, and all blocks but these as they were -/
structure Keeps (w w' : World) (M : Nat → Prop) : Prop where
  os : w'.os = w.os
  tape : w'.tape = w.tape
  output : w'.output = w.output
  size : w.heap.size ≤ w'.heap.size
  block : ∀ b, b < w.heap.size → ¬ M b → w'.heap[b]? = w.heap[b]?
theorem Keeps.refl (w : World) (M : Nat → Prop) : Keeps w w M := ⟨rfl, rfl, rfl, Nat.le_refl _, fun _ _ _ => rfl⟩
theorem Keeps.of {w w' : World} {M : Nat → Prop} (h : Below w.heap.size w w') : Keeps w w' M := ⟨h.os, h.tape, h.output, h.size, fun b hb _ => h.block b hb⟩
theorem Keeps.trans {w w' w'' : World} {M M' : Nat → Prop} (h : Keeps w w' M) (h' : Keeps w' w'' M') (hM : ∀ b, M' b → M b ∨ w.heap.size ≤ b) : Keeps w w'' M :=
  ⟨h'.os.trans h.os, h'.tape.trans h.tape, h'.output.trans h.output, Nat.le_trans h.size h'.size, fun b hb hm => (h'.block b (Nat.lt_of_lt_of_le hb h.size) fun hm' => (hM b hm').elim hm fun hge => by omega).trans (h.block b hb hm)⟩
theorem Keeps.below {w w' : World} {M : Nat → Prop} (h : Keeps w w' M) (hM : ∀ b, ¬ M b) : Below w.heap.size w w' := ⟨h.os, h.tape, h.output, h.size, fun b hb => h.block b hb (hM b)⟩
theorem Keeps.grown {w w' : World} {M : Nat → Prop} {o : Option Nat} (h : w.grownBy w' o) (hM : ∀ b, o = some b → M b ∨ w.heap.size ≤ b) : Keeps w w' M :=
  ⟨h.os, h.tape, h.output, h.size, fun b hb hm => h.block b hb fun e => (hM b e.symm).elim hm fun hge => by omega⟩

def sumA : List (Tm × Int) → Nat
  | [] => 0
  | p :: l => p.1.size + sumA l
theorem sumA_app : ∀ l m, sumA (l ++ m) = sumA l + sumA m
  | [], m => by simp [sumA]
  | p :: l, m => by simp [sumA, sumA_app l m]; omega
theorem len_sumA : ∀ l : List (Tm × Int), l.length ≤ sumA l
  | [] => by simp
  | p :: l => by have := len_sumA l; have := size_pos p.1; simp [sumA]; omega
theorem sumA_map (d : Int) : ∀ l : List Tm, sumA (l.map fun t => (t, d)) = sizeL l
  | [] => rfl
  | t :: l => by simp [sumA, sizeL, sumA_map d l]
theorem mem_sizeL {y : Tm} : ∀ {l : List Tm}, y ∈ l → y.size ≤ sizeL l
  | t :: l, h => by
    rcases List.mem_cons.1 h with rfl | h
    · simp only [sizeL]; omega
    · have := mem_sizeL h; simp only [sizeL]; omega
theorem sumA_rev : ∀ l, sumA l.reverse = sumA l
  | [] => rfl
  | p :: l => by simp [sumA, sumA_app, sumA_rev l]; omega
end Go.Proofs.YtkhchmgdaolojaaDoor.Tms
namespace Go.Proofs.YtkhchmgdaolojaaDoor.Tms
open Go Go.RowKit Go.Proofs.YtkhchmgdaolojaaDoor.Reg Go.Proofs.YtkhchmgdaolojaaDoor.Rws
set_option linter.unusedVariables false

/-- what a visitor keeps -/
structure Vis where
  Sig : List (Tm × Int) → World → Prop
  Mine : List (Tm × Int) → World → Nat → Prop
  keep : ∀ {D W W'}, Sig D W → W.heap.size ≤ W'.heap.size → (∀ b, b < W.heap.size → Mine D W b → W'.heap[b]? = W.heap[b]?) → Sig D W' ∧ ∀ b, Mine D W' b → Mine D W b
  low : ∀ {D W b}, Sig D W → Mine D W b → b < W.heap.size
theorem Vis.below (V : Vis) {D : List (Tm × Int)} {W W' : World} (h : V.Sig D W) (hb : Below W.heap.size W W') : V.Sig D W' ∧ ∀ b, V.Mine D W' b → V.Mine D W b := V.keep h hb.size fun b hlt _ => hb.block b hlt
/-- what a call of the visitor leaves -/
def Seen (V : Vis) (D : List (Tm × Int)) (p : Tm × Int) (W : World) (e : Ending) (w' : World) : Prop :=
  e = .returned (.tuple #[]) ∧ V.Sig (D ++ [p]) w' ∧ Keeps W w' (V.Mine D W) ∧ ∀ b, V.Mine (D ++ [p]) w' b → V.Mine D W b ∨ W.heap.size ≤ b

structure WkInv (V : Vis) (w : World) (Q : Nat → Prop) (D : List (Tm × Int)) (g cap n : Nat) (l : List (Tm × Int)) (wr : World) : Prop where
  len : l.length = n
  own : Own abKind wr (w.heap.size + 1) Q (.slice (some ⟨g, 0, none⟩) n cap) l
  keeps : Keeps w wr (V.Mine [] w)
  big : w.heap.size + 1 ≤ wr.heap.size
  sig : V.Sig D wr
  mine : ∀ b, V.Mine D wr b → V.Mine [] w b ∨ w.heap.size ≤ b
  notg : ¬ V.Mine D wr g
def WkRel (V : Vis) (t : Tm) (w : World) (Q : Nat → Prop) (k : Nat) (v4 : Value) (wr : World) : Prop :=
  ∃ (D l : List (Tm × Int)) (g cap n : Nat), v4 = .slice (some ⟨g, 0, none⟩) n cap ∧ WkInv V w Q D g cap n l wr ∧ parts 1 t = D ++ partsS l.reverse ∧ sumA l ≤ k ∧ k ≤ t.size ∧ ∀ p ∈ l, 1 ≤ p.2 ∧ p.2 + p.1.size ≤ t.size + 1

theorem wk_start (V : Vis) (t : Tm) (w : World) (Q : Nat → Prop) (a : Option Addr) (c : Nat) (hQ : ∀ b, Q b → b < w.heap.size) (h : IsTm w Q (.agg #[.int .i64 t.k, .int .i64 t.n, .string t.s, .slice a t.args.length c]) t) (hs : V.Sig [] w) :
    WkRel V t w Q t.size (.slice (some ⟨w.heap.size + 1, 0, none⟩) 1 1) ((w.alloc (.cells #[.int .i64 t.k, .int .i64 t.n, .string t.s, .slice a t.args.length c] 28 (0, 0))).alloc
      (.cells #[.int .i64 t.k, .int .i64 t.n, .string t.s, .slice a t.args.length c, .int .i64 1] 95 (0, 0))) := by
  have hb0 : Below w.heap.size w (w.alloc (.cells #[.int .i64 t.k, .int .i64 t.n, .string t.s, .slice a t.args.length c] 28 (0, 0))) := (Below.refl _ _).alloc (Nat.le_refl _) _
  have hz : (w.alloc (.cells #[.int .i64 t.k, .int .i64 t.n, .string t.s, .slice a t.args.length c] 28 (0, 0))).heap.size = w.heap.size + 1 := by simp
  generalize w.alloc (.cells #[.int .i64 t.k, .int .i64 t.n, .string t.s, .slice a t.args.length c] 28 (0, 0)) = w2 at *
  have hb : Below w2.heap.size w2 (w2.alloc (.cells #[.int .i64 t.k, .int .i64 t.n, .string t.s, .slice a t.args.length c, .int .i64 1] 95 (0, 0))) := (Below.refl _ _).alloc (Nat.le_refl _) _
  have hbel := hb0.trans (hb.mono (by omega))
  have hk := V.below hs hbel
  refine ⟨[], [(t, 1)], w.heap.size + 1, 1, 1, rfl, ⟨rfl, ⟨[[.int .i64 t.k, .int .i64 t.n, .string t.s, .slice a t.args.length c, .int .i64 1]], ?_, ⟨⟨a, c, rfl, ?_⟩, trivial⟩⟩, Keeps.of hbel, by simp; omega, hk.1, fun b hb => .inl (hk.2 b hb), fun hm => ?_⟩, by simp [partsS], by simp [sumA], Nat.le_refl _, fun p hp => ?_⟩
  · rw [show w.heap.size + 1 = w2.heap.size by omega]
    exact World.ownsRow_lit w2 _ 1 (by omega) (by decide) rfl
  · obtain ⟨a', c', e, h'⟩ := h
    simp at e
    obtain ⟨rfl, rfl⟩ := e
    exact ArgsFrom.imp (fun b h => ⟨h, by have := hQ b h; simp [Value.ownBlock]; omega, by have := hQ b h; simp; omega⟩) (fun b h _ => hbel.block b (hQ b h)) _ _ _ h'
  · have := V.low hs (hk.2 _ hm)
    omega
  · obtain rfl : p = (t, 1) := by simpa using hp
    exact ⟨by show (1 : Int) ≤ 1; omega, by show (1 : Int) + (t.size : Int) ≤ _; omega⟩

structure WkIn (V : Vis) (w : World) (Q : Nat → Prop) (D : List (Tm × Int)) (s5 : Nat) (x : Tm) (d : Int) (xa : Option Addr) (xc : Nat) (l' : List (Tm × Int)) (q g cap n : Nat) (wr : World) : Prop where
  len : n = l'.length + (x.args.length - q)
  own : Own abKind wr (w.heap.size + 1) Q (.slice (some ⟨g, 0, none⟩) n cap) (l' ++ ((x.args.drop q).map fun t => (t, d + 1)).reverse)
  keeps : Keeps w wr (V.Mine [] w)
  sig : V.Sig D wr
  mine : ∀ b, V.Mine D wr b → V.Mine [] w b ∨ w.heap.size ≤ b
  notg : ¬ V.Mine D wr g
  box : wr.heap[s5]? = some (.cells #[.int .i64 x.k, .int .i64 x.n, .string x.s, .slice xa x.args.length xc, .int .i64 d] 95 (0, 0))
  ne : g ≠ s5
  low : w.heap.size + 1 ≤ s5 ∧ s5 < wr.heap.size
  xi : IsTm wr Q (.agg #[.int .i64 x.k, .int .i64 x.n, .string x.s, .slice xa x.args.length xc]) x
def WkInRel (V : Vis) (w : World) (Q : Nat → Prop) (D : List (Tm × Int)) (s5 : Nat) (x : Tm) (d : Int) (xa : Option Addr) (xc : Nat) (l' : List (Tm × Int)) (v4 v6 : Value) (wr : World) : Prop :=
  ∃ q g cap n, q ≤ x.args.length ∧ v6 = .int .i64 ((q : Int) - 1) ∧ v4 = .slice (some ⟨g, 0, none⟩) n cap ∧ WkIn V w Q D s5 x d xa xc l' q g cap n wr
end Go.Proofs.YtkhchmgdaolojaaDoor.Tms
