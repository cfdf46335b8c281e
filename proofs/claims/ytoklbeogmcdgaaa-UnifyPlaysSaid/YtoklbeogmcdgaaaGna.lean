
/-
  Terms: values of atoms, numbers and compounds; a tree that is copied through pointers (what holds while it runs); rows that the call owns. Plain laws, told of no function.
-/
import Derived.Test.YtoklbeogmcdgaaaSame
import Derived.Laws.Tables
import Derived.Outline
import Derived.Deep.LoopGhost
import Derived.OwnWalk
import Derived.Laws.CopyOwn
namespace Go.Proofs.Ytoklbeogmcdgaaa.Tms
open Go Go.Proofs.Ytoklbeogmcdgaaa.Reg Go.RowKit

abbrev atomV (s : ByteArray) : Value := .agg #[.int .i64 3, .int .i64 0, .string s, .slice none 0 0]
def atomT (s : ByteArray) : Tm := .mk 3 0 s []
theorem atom_is (w : World) (P : Nat → Prop) (s : ByteArray) : IsTm w P (atomV s) (atomT s) := IsTm.mk' (t := atomT s) (IsSl.nil w P none 0)
theorem one4 (k n : Int) (s : ByteArray) (a : Option Addr) (l c : Nat) : (#[Value.int .i64 k, .int .i64 n, .string s, .slice a l c].all fun v => v.oneCell') = true := by simp [Value.oneCell']
theorem size_term : (Try.prog.info? 33).map (·.size) = some 4 := by kernel_rfl

/-- what a call that makes a term leaves: it lies in blocks of P or in new ones -/
def MakesTm (P : Nat → Prop) (t : Tm) (w : World) (e : Ending) (w' : World) : Prop := ∃ v, e = .returned v ∧ IsTm w' (fun b => P b ∨ w.heap.size ≤ b) v t ∧ Below w.heap.size w w'

/-- two terms in a new block -/
theorem pair_sl {w : World} {P : Nat → Prop} {b cap : Nat} {T : TypeId} {t1 t2 : Tm} {a1 a2 : Option Addr} {c1 c2 : Nat} (hb : P b)
    (h : w.heap[b]? = some (.cells #[.int .i64 t1.k, .int .i64 t1.n, .string t1.s, .slice a1 t1.args.length c1, .int .i64 t2.k, .int .i64 t2.n, .string t2.s, .slice a2 t2.args.length c2] T (0, 0)))
    (h1 : IsSl w P (.slice a1 t1.args.length c1) t1.args) (h2 : IsSl w P (.slice a2 t2.args.length c2) t2.args) : IsSl w P (.slice (some ⟨b, 0, none⟩) 2 cap) [t1, t2] := by
  refine IsSl.mk' (ts := [t1, t2]) fun i hi => ⟨b, 0, rfl, hb, ?_⟩
  have hi2 : i < 2 := hi
  have : i = 0 ∨ i = 1 := by omega
  rcases this with rfl | rfl
  · exact TmAt.mk' (cell_of_row w b _ _ _ _ h) (cell_of_row w b _ _ _ _ h) (cell_of_row w b _ _ _ _ h) (cell_of_row w b _ _ _ _ h) h1
  · exact TmAt.mk' (cell_of_row w b _ _ _ _ h) (cell_of_row w b _ _ _ _ h) (cell_of_row w b _ _ _ _ h) (cell_of_row w b _ _ _ _ h) h2


theorem argsFrom_at {w : World} {P : Nat → Prop} {a : Option Addr} {ts : List Tm} (h : ArgsFrom w P a 0 ts) (i : Nat) (hi : i < ts.length) : ∃ b off, a = some ⟨b, off, none⟩ ∧ P b ∧ TmAt w P b (off + i * 4) ts[i] := by
  have := argsFrom_iff.1 h i hi
  simpa using this
mutual
theorem TmAt.lt {w : World} {P : Nat → Prop} : ∀ (t : Tm) (b o : Nat), TmAt w P b o t → TmAt w (fun b => P b ∧ b < w.heap.size) b o t
  | .mk k n s args, b, o, h => by
    unfold TmAt at h ⊢
    obtain ⟨a, cap, h0, h1, h2, h3, h4⟩ := h
    exact ⟨a, cap, h0, h1, h2, h3, ArgsFrom.lt args a 0 h4⟩
theorem ArgsFrom.lt {w : World} {P : Nat → Prop} : ∀ (ts : List Tm) (a : Option Addr) (j : Nat), ArgsFrom w P a j ts → ArgsFrom w (fun b => P b ∧ b < w.heap.size) a j ts
  | [], a, j, _ => by unfold ArgsFrom; trivial
  | t :: ts, a, j, h => by
    unfold ArgsFrom at h ⊢
    obtain ⟨⟨b, off, e, hb, ht⟩, h2⟩ := h
    exact ⟨⟨b, off, e, ⟨hb, by obtain ⟨a, c, x0, -⟩ := ht.read; exact World.block_lt_of_cell? _ _ x0⟩, TmAt.lt t b _ ht⟩, ArgsFrom.lt ts a (j + 1) h2⟩
end
theorem IsTm.lt {w : World} {P : Nat → Prop} {v : Value} {t : Tm} (h : IsTm w P v t) : IsTm w (fun b => P b ∧ b < w.heap.size) v t :=
  let ⟨a, cap, e, h⟩ := h; ⟨a, cap, e, ArgsFrom.lt _ a 0 h⟩

def SP (P S : Nat → Prop) : Nat → Prop := fun b => P b ∨ S b
abbrev ptrOf (x : Nat × Nat × Tm) : Value := .pointer (some ⟨x.1, x.2.1, none⟩)
theorem nil_or_snoc {α : Type} (l : List α) : l = [] ∨ ∃ m x, l = m ++ [x] := by
  rcases List.eq_nil_or_concat l with h | ⟨m, x, h⟩
  · exact .inl h
  · exact .inr ⟨m, x, by simpa using h⟩

structure OwnInv (t : Tm) (P S : Nat → Prop) (w : World) (B : Nat) (l : List (Nat × Nat × Tm)) (wr : World) : Prop where
  mine : ∀ b, S b → B ≤ b ∧ b ≠ B + 1 ∧ ∃ cur, wr.heap[b]? = some (.cells cur 33 (0, 0))
  theirs : ∀ b, P b → b < B
  root : S B ∧ TmAt wr (SP P S) B 0 t
  items : ∀ x ∈ l, S x.1 ∧ TmAt wr (SP P S) x.1 x.2.1 x.2.2
  below : Below B w wr
  res : wr.heap[B + 1]? = some (.cells #[.int .i64 0, .int .i64 0, .string ⟨#[]⟩, .slice none 0 0] 33 (0, 0))

/-- a world in which all rows of terms, and all that was there first, are as they were -/
theorem OwnInv.keep {t : Tm} {P S : Nat → Prop} {w : World} {B : Nat} {l : List (Nat × Nat × Tm)} {wr w' : World} (h : OwnInv t P S w B l wr) (hb : Below B wr w')
    (hk : ∀ b cur, B ≤ b → wr.heap[b]? = some (.cells cur 33 (0, 0)) → w'.heap[b]? = wr.heap[b]?) : OwnInv t P S w B l w' := by
  have hsp : ∀ b, SP P S b → b < wr.heap.size → w'.heap[b]? = wr.heap[b]? := fun b hs _ => by
    rcases hs with hs | hs
    · exact hb.block b (h.theirs b hs)
    · obtain ⟨h1, -, cur, hc⟩ := h.mine b hs
      exact hk b cur h1 hc
  refine ⟨fun b hs => ?_, h.theirs, ⟨h.root.1, h.root.2.imp (fun _ h => h) hsp _ _ _ (.inr h.root.1)⟩, fun x hx => ⟨(h.items x hx).1, (h.items x hx).2.imp (fun _ h => h) hsp _ _ _ (.inr (h.items x hx).1)⟩, h.below.trans hb, (hk _ _ (by omega) h.res).trans h.res⟩
  obtain ⟨h1, h2, cur, hc⟩ := h.mine b hs
  exact ⟨h1, h2, cur, (hk b cur h1 hc).trans hc⟩

/-- a new row of terms -/
theorem OwnInv.new {t : Tm} {P S : Nat → Prop} {w : World} {B : Nat} {l : List (Nat × Nat × Tm)} {wr w' : World} (h : OwnInv t P S w B l wr) (hb : Below wr.heap.size wr w') (hB : B + 1 < wr.heap.size) {cs : Array Value}
    (hn : w'.heap[wr.heap.size]? = some (.cells cs 33 (0, 0))) : OwnInv t P (fun b => S b ∨ b = wr.heap.size) w B l w' := by
  have k := h.keep (hb.mono (by omega)) fun b cur _ hc => hb.block b (Array.getElem?_eq_some_iff.1 hc).1
  have hsp : ∀ b, SP P S b → SP P (fun b => S b ∨ b = wr.heap.size) b := fun b hs => hs.elim .inl fun h => .inr (.inl h)
  refine ⟨fun b hs => ?_, k.theirs, ⟨.inl k.root.1, k.root.2.imp hsp (fun _ _ _ => rfl) _ _ _ (.inr k.root.1)⟩, fun x hx => ⟨.inl (k.items x hx).1, (k.items x hx).2.imp hsp (fun _ _ _ => rfl) _ _ _ (.inr (k.items x hx).1)⟩, k.below, k.res⟩
  rcases hs with hs | rfl
  · exact k.mine b hs
  · exact ⟨by omega, by omega, cs, hn⟩

theorem OwnInv.more {t : Tm} {P S : Nat → Prop} {w : World} {B : Nat} {l : List (Nat × Nat × Tm)} {wr : World} (h : OwnInv t P S w B l wr) {b o : Nat} {u : Tm} (hs : S b) (hu : TmAt wr (SP P S) b o u) : OwnInv t P S w B (l ++ [(b, o, u)]) wr :=
  ⟨h.mine, h.theirs, h.root, fun x hx => by
    simp only [List.mem_append, List.mem_singleton] at hx
    rcases hx with hx | rfl
    · exact h.items x hx
    · exact ⟨hs, hu⟩, h.below, h.res⟩

/-- the stack of what waits -/
structure Stack (B : Nat) (g cap n : Nat) (l : List (Nat × Nat × Tm)) (wr : World) : Prop where
  len : l.length = n
  owns : wr.ownsRow B 165 1 (.slice (some ⟨g, 0, none⟩) n cap) n (l.map ptrOf)
theorem Stack.blk {B g cap n : Nat} {l : List (Nat × Nat × Tm)} {wr : World} (h : Stack B g cap n l wr) : ∃ cur, wr.heap[g]? = some (.cells cur 165 (0, 0)) ∧ B ≤ g := by
  obtain ⟨-, h | ⟨g', cap', cur, e, hb, hg, -⟩⟩ := h.owns
  · cases h.1
  · simp only [Value.slice.injEq, Option.some.injEq, Addr.mk.injEq, and_true, true_and] at e
    obtain ⟨rfl, rfl⟩ := e
    exact ⟨cur, hg, hb⟩

theorem Stack.other {B g cap n : Nat} {l : List (Nat × Nat × Tm)} {wr : World} (h : Stack B g cap n l wr) {b q : Nat} (hb : ∃ cur, wr.heap[b]? = some (.cells cur 33 (0, 0))) (u : Value) : Stack B g cap n l (wr.setCell ⟨b, q, none⟩ u) := by
  refine ⟨h.len, h.owns.1, ?_⟩
  rcases h.owns.2 with h2 | ⟨g', cap', cur, hv, hg, hh, r⟩
  · exact .inl h2
  · refine .inr ⟨g', cap', cur, hv, hg, (Below.heap_setCell _ _ _ _ (show g' ≠ b from fun e => ?_)).trans hh, r⟩
    obtain ⟨c, hc⟩ := hb
    rw [← e, hh] at hc
    simp at hc

theorem Stack.keep {B g cap n : Nat} {l : List (Nat × Nat × Tm)} {wr w' : World} (h : Stack B g cap n l wr) (hb : Below wr.heap.size wr w') : Stack B g cap n l w' := by
  refine ⟨h.len, h.owns.1, ?_⟩
  rcases h.owns.2 with h2 | ⟨g', cap', cur, hv, hg, hh, r⟩
  · exact .inl h2
  · exact .inr ⟨g', cap', cur, hv, hg, (hb.block _ (Array.getElem?_eq_some_iff.1 hh).1).trans hh, r⟩

theorem info_term : (Try.prog.info? 33).map (fun i => (i.zero, i.size, i.bytes)) = some (some (.agg #[.int .i64 0, .int .i64 0, .string ⟨#[]⟩, .slice none 0 0]), 4, 56) := by kernel_rfl
theorem own_row {w : World} {B g n cap k : Nat} {T : TypeId} {xs : List Value} (h : w.ownsRow B T k (.slice (some ⟨g, 0, none⟩) n cap) n xs) : ∃ cur, w.heap[g]? = some (.cells cur T (0, 0)) ∧ cur.size = cap * k := by
  obtain ⟨-, h | ⟨g', cap', cur, e, hb, hg, hc, hm, hs, ht⟩⟩ := h
  · cases h.1
  · simp only [Value.slice.injEq, Option.some.injEq, Addr.mk.injEq, and_true, true_and] at e
    obtain ⟨rfl, rfl⟩ := e
    exact ⟨cur, hg, hs⟩

theorem sizeL_take : ∀ (l : List Tm) (j : Nat), sizeL (l.take j) ≤ sizeL l
  | [], j => by simp [sizeL]
  | t :: l, 0 => by simp [sizeL]
  | t :: l, j + 1 => by have := sizeL_take l j; simp only [List.take_succ_cons, sizeL]; omega
end Go.Proofs.Ytoklbeogmcdgaaa.Tms
