
/-
  fault.own walked over the program: what it returns reads as what it was given.
-/
import Derived.Test.YtokhiolimioicaaOwn
import Derived.Outline
namespace Go.Proofs.Ytokhiolimioicaa.Tms
open Go Go.RowKit Go.Proofs.Ytokhiolimioicaa.Reg

mutual
theorem TmAt.lt {w : World} {P : Nat → Prop} : ∀ (t : Tm) (b o : Nat), TmAt w P b o t → TmAt w (fun b => P b ∧ b < w.heap.size) b o t
  | .mk k n s args, b, o, h => by
    unfold TmAt at h ⊢
    obtain ⟨a, cap, h0, h1, h2, h3, h4⟩ := h
    exact ⟨a, cap, h0, h1, h2, h3, ArgsFrom.lt args a 0 h4⟩
theorem ArgsFrom.lt {w : World} {P : Nat → Prop} : ∀ (ts : List Tm) (a : Option Addr) (j : Nat), ArgsFrom w P a j ts → ArgsFrom w (fun b => P b ∧ b < w.heap.size) a j ts
  | [], a, j, _ => by unfold ArgsFrom; trivial
  | t :: ts, a, j, h => by
    unfold ArgsFrom at h ⊢
    obtain ⟨⟨b, off, e, hb, ht⟩, h2⟩ := h
    exact ⟨⟨b, off, e, ⟨hb, by obtain ⟨a, c, x0, -⟩ := ht.read; exact World.block_lt_of_cell? _ _ x0⟩, TmAt.lt t b _ ht⟩, ArgsFrom.lt ts a (j + 1) h2⟩
end
theorem IsTm.lt {w : World} {P : Nat → Prop} {v : Value} {t : Tm} (h : IsTm w P v t) : IsTm w (fun b => P b ∧ b < w.heap.size) v t :=
  let ⟨a, cap, e, h⟩ := h; ⟨a, cap, e, ArgsFrom.lt _ a 0 h⟩

def SP (P S : Nat → Prop) : Nat → Prop := fun b => P b ∨ S b
abbrev ptrOf (x : Nat × Nat × Tm) : Value := .pointer (some ⟨x.1, x.2.1, none⟩)
def sumSz : List (Nat × Nat × Tm) → Nat
  | [] => 0
  | x :: l => x.2.2.size + sumSz l
theorem sumSz_app : ∀ (l m : List (Nat × Nat × Tm)), sumSz (l ++ m) = sumSz l + sumSz m
  | [], m => by simp [sumSz]
  | x :: l, m => by simp [sumSz, sumSz_app l m]; omega
theorem len_sumSz : ∀ l : List (Nat × Nat × Tm), l.length ≤ sumSz l
  | [] => by simp
  | x :: l => by have := len_sumSz l; have := size_pos x.2.2; simp [sumSz]; omega

theorem nil_or_snoc {α : Type} (l : List α) : l = [] ∨ ∃ m x, l = m ++ [x] := by
  rcases List.eq_nil_or_concat l with h | ⟨m, x, h⟩
  · exact .inl h
  · exact .inr ⟨m, x, by simpa using h⟩

structure OwnInv (t : Tm) (P S : Nat → Prop) (w : World) (B : Nat) (l : List (Nat × Nat × Tm)) (wr : World) : Prop where
  mine : ∀ b, S b → B ≤ b ∧ b ≠ B + 1 ∧ ∃ cur, wr.heap[b]? = some (.cells cur 27 (0, 0))
  theirs : ∀ b, P b → b < B
  root : S B ∧ TmAt wr (SP P S) B 0 t
  items : ∀ x ∈ l, S x.1 ∧ TmAt wr (SP P S) x.1 x.2.1 x.2.2
  below : Below B w wr
  res : wr.heap[B + 1]? = some (.cells #[.int .i64 0, .int .i64 0, .string ⟨#[]⟩, .slice none 0 0] 27 (0, 0))

/-- a world in which all rows of terms, and all that was there first, are as they were -/
theorem OwnInv.keep {t : Tm} {P S : Nat → Prop} {w : World} {B : Nat} {l : List (Nat × Nat × Tm)} {wr w' : World} (h : OwnInv t P S w B l wr) (hb : Below B wr w')
    (hk : ∀ b cur, B ≤ b → wr.heap[b]? = some (.cells cur 27 (0, 0)) → w'.heap[b]? = wr.heap[b]?) : OwnInv t P S w B l w' := by
  have hsp : ∀ b, SP P S b → b < wr.heap.size → w'.heap[b]? = wr.heap[b]? := fun b hs _ => by
    rcases hs with hs | hs
    · exact hb.block b (h.theirs b hs)
    · obtain ⟨h1, -, cur, hc⟩ := h.mine b hs
      exact hk b cur h1 hc
  refine ⟨fun b hs => ?_, h.theirs, ⟨h.root.1, h.root.2.imp (fun _ h => h) hsp _ _ _ (.inr h.root.1)⟩, fun x hx => ⟨(h.items x hx).1, (h.items x hx).2.imp (fun _ h => h) hsp _ _ _ (.inr (h.items x hx).1)⟩, h.below.trans hb, (hk _ _ (by omega) h.res).trans h.res⟩
  obtain ⟨h1, h2, cur, hc⟩ := h.mine b hs
  exact ⟨h1, h2, cur, (hk b cur h1 hc).trans hc⟩

/-- a new row of terms -/
theorem OwnInv.new {t : Tm} {P S : Nat → Prop} {w : World} {B : Nat} {l : List (Nat × Nat × Tm)} {wr w' : World} (h : OwnInv t P S w B l wr) (hb : Below wr.heap.size wr w') (hB : B + 1 < wr.heap.size) {cs : Array Value}
    (hn : w'.heap[wr.heap.size]? = some (.cells cs 27 (0, 0))) : OwnInv t P (fun b => S b ∨ b = wr.heap.size) w B l w' := by
  have k := h.keep (hb.mono (by omega)) fun b cur _ hc => hb.block b (Array.getElem?_eq_some_iff.1 hc).1
  have hsp : ∀ b, SP P S b → SP P (fun b => S b ∨ b = wr.heap.size) b := fun b hs => hs.elim .inl fun h => .inr (.inl h)
  refine ⟨fun b hs => ?_, k.theirs, ⟨.inl k.root.1, k.root.2.imp hsp (fun _ _ _ => rfl) _ _ _ (.inr k.root.1)⟩, fun x hx => ⟨.inl (k.items x hx).1, (k.items x hx).2.imp hsp (fun _ _ _ => rfl) _ _ _ (.inr (k.items x hx).1)⟩, k.below, k.res⟩
  rcases hs with hs | rfl
  · exact k.mine b hs
  · exact ⟨by omega, by omega, cs, hn⟩

/-- a term's cell is turned to the same terms elsewhere -/
theorem OwnInv.turn {t : Tm} {P S : Nat → Prop} {w : World} {B : Nat} {l : List (Nat × Nat × Tm)} {wr : World} (h : OwnInv t P S w B l wr) {g q n : Nat} {a1 a2 : Option Addr} {c1 c2 : Nat} {us : List Tm} (hS : S g) (h1 : wr.cell? ⟨g, q, none⟩ = some (.slice a1 n c1)) (hn : us.length = n)
    (ho : ArgsFrom wr (SP P S) a1 0 us) (hu : ArgsFrom wr (SP P S) a2 0 us) : OwnInv t P S w B l (wr.setCell ⟨g, q, none⟩ (.slice a2 n c2)) ∧ ∀ u b o, TmAt wr (SP P S) b o u → TmAt (wr.setCell ⟨g, q, none⟩ (.slice a2 n c2)) (SP P S) b o u := by
  have rd : ∀ u b o, TmAt wr (SP P S) b o u → TmAt (wr.setCell ⟨g, q, none⟩ (.slice a2 n c2)) (SP P S) b o u := fun u b o hu' =>
    redirect h1 (cell_setCell_eq h1) (fun b o hne => cell_setCell_ne hne) hn ho hu _ u b o (Nat.le_refl _) hu'
  obtain ⟨g1, g2, gc, hg⟩ := h.mine g hS
  refine ⟨⟨fun b hs => ?_, h.theirs, ⟨h.root.1, rd _ _ _ h.root.2⟩, fun x hx => ⟨(h.items x hx).1, rd _ _ _ (h.items x hx).2⟩, h.below.setCell g1 _, (Below.heap_setCell _ _ _ _ (show B + 1 ≠ g by omega)).trans h.res⟩, rd⟩
  obtain ⟨b1, b2, cur, hc⟩ := h.mine b hs
  refine ⟨b1, b2, ?_⟩
  by_cases e : b = g
  · subst e
    exact ⟨_, heap_setCell_same wr b q cur _ _ hc⟩
  · exact ⟨cur, (Below.heap_setCell _ _ _ _ e).trans hc⟩

theorem OwnInv.less {t : Tm} {P S : Nat → Prop} {w : World} {B : Nat} {l m : List (Nat × Nat × Tm)} {wr : World} (h : OwnInv t P S w B (l ++ m) wr) : OwnInv t P S w B l wr :=
  ⟨h.mine, h.theirs, h.root, fun x hx => h.items x (by simp [hx]), h.below, h.res⟩
theorem OwnInv.more {t : Tm} {P S : Nat → Prop} {w : World} {B : Nat} {l : List (Nat × Nat × Tm)} {wr : World} (h : OwnInv t P S w B l wr) {b o : Nat} {u : Tm} (hs : S b) (hu : TmAt wr (SP P S) b o u) : OwnInv t P S w B (l ++ [(b, o, u)]) wr :=
  ⟨h.mine, h.theirs, h.root, fun x hx => by
    simp only [List.mem_append, List.mem_singleton] at hx
    rcases hx with hx | rfl
    · exact h.items x hx
    · exact ⟨hs, hu⟩, h.below, h.res⟩

/-- the stack of what waits -/
structure Stack (B : Nat) (g cap n : Nat) (l : List (Nat × Nat × Tm)) (wr : World) : Prop where
  len : l.length = n
  owns : wr.ownsRow B 96 1 (.slice (some ⟨g, 0, none⟩) n cap) n (l.map ptrOf)
theorem Stack.blk {B g cap n : Nat} {l : List (Nat × Nat × Tm)} {wr : World} (h : Stack B g cap n l wr) : ∃ cur, wr.heap[g]? = some (.cells cur 96 (0, 0)) ∧ B ≤ g := by
  obtain ⟨-, h | ⟨g', cap', cur, e, hb, hg, -⟩⟩ := h.owns
  · cases h.1
  · simp only [Value.slice.injEq, Option.some.injEq, Addr.mk.injEq, and_true, true_and] at e
    obtain ⟨rfl, rfl⟩ := e
    exact ⟨cur, hg, hb⟩

def OwnRel (t : Tm) (P : Nat → Prop) (w : World) (B k : Nat) (v3 : Value) (wr : World) : Prop :=
  ∃ (S : Nat → Prop) (l : List (Nat × Nat × Tm)) (g cap n : Nat), v3 = .slice (some ⟨g, 0, none⟩) n cap ∧ Stack B g cap n l wr ∧ OwnInv t P S w B l wr ∧ sumSz l ≤ k ∧ k ≤ t.size

theorem zero_frozen {w : World} {b q : Nat} {cur : Array Value} {T : TypeId} (h : w.heap[b]? = some (.cells cur T (0, 0))) : w.frozen? ⟨b, q, none⟩ = false := frozen_of_row w b q cur T h

theorem own_start (t : Tm) (P : Nat → Prop) (w : World) (a : Option Addr) (cap : Nat) (h : IsTm w P (.agg #[.int .i64 t.k, .int .i64 t.n, .string t.s, .slice a t.args.length cap]) t) (hP : ∀ b, P b → b < w.heap.size) :
    OwnRel t P w w.heap.size t.size (.slice (some ⟨w.heap.size + 1 + 1, 0, none⟩) 1 1) (((w.alloc (.cells #[.int .i64 t.k, .int .i64 t.n, .string t.s, .slice a t.args.length cap] 27 (0, 0))).alloc
      (.cells #[.int .i64 0, .int .i64 0, .string ⟨#[]⟩, .slice none 0 0] 27 (0, 0))).alloc (.cells #[.pointer (some ⟨w.heap.size, 0, none⟩)] 96 (0, 0))) := by
  generalize hw1 : w.alloc (.cells #[.int .i64 t.k, .int .i64 t.n, .string t.s, .slice a t.args.length cap] 27 (0, 0)) = w1
  have s1 : w1.heap.size = w.heap.size + 1 := by rw [← hw1]; simp
  have b1 : Below w.heap.size w w1 := by rw [← hw1]; exact (Below.refl _ _).alloc (Nat.le_refl _) _
  have r1 : w1.heap[w.heap.size]? = some (.cells #[.int .i64 t.k, .int .i64 t.n, .string t.s, .slice a t.args.length cap] 27 (0, 0)) := by rw [← hw1]; exact heap_alloc_new _ _
  generalize hw2 : w1.alloc (.cells #[.int .i64 0, .int .i64 0, .string ⟨#[]⟩, .slice none 0 0] 27 (0, 0)) = w2
  have s2 : w2.heap.size = w.heap.size + 2 := by rw [← hw2]; simp [s1]
  have b2 : Below w1.heap.size w1 w2 := by rw [← hw2]; exact (Below.refl _ _).alloc (Nat.le_refl _) _
  have r2 : w2.heap[w.heap.size + 1]? = some (.cells #[.int .i64 0, .int .i64 0, .string ⟨#[]⟩, .slice none 0 0] 27 (0, 0)) := by rw [← hw2, ← s1]; exact heap_alloc_new _ _
  generalize hw3 : w2.alloc (.cells #[.pointer (some ⟨w.heap.size, 0, none⟩)] 96 (0, 0)) = w3
  have s3 : w3.heap.size = w.heap.size + 3 := by rw [← hw3]; simp [s2]
  have b3 : Below w2.heap.size w2 w3 := by rw [← hw3]; exact (Below.refl _ _).alloc (Nat.le_refl _) _
  have b03 : Below w.heap.size w w3 := b1.trans ((b2.mono (by omega)).trans (b3.mono (by omega)))
  have r13 : w3.heap[w.heap.size]? = some (.cells #[.int .i64 t.k, .int .i64 t.n, .string t.s, .slice a t.args.length cap] 27 (0, 0)) := (b3.block _ (by omega)).trans ((b2.block _ (by omega)).trans r1)
  have h3 : IsTm w3 (SP P fun b => b = w.heap.size) (.agg #[.int .i64 t.k, .int .i64 t.n, .string t.s, .slice a t.args.length cap]) t := h.imp (fun _ h => .inl h) fun b _ hlt => b03.block b hlt
  have root : TmAt w3 (SP P fun b => b = w.heap.size) w.heap.size 0 t := TmAt.mk' (cell_of_row w3 _ _ _ _ _ r13) (cell_of_row w3 _ _ _ _ _ r13) (cell_of_row w3 _ _ _ _ _ r13) (cell_of_row w3 _ _ _ _ _ r13) h3.args
  refine ⟨fun b => b = w.heap.size, [(w.heap.size, 0, t)], w.heap.size + 1 + 1, 1, 1, rfl, ⟨rfl, ?_⟩, ⟨?_, hP, ⟨rfl, root⟩, ?_, b03, (b3.block _ (by omega)).trans r2⟩, by simp [sumSz], Nat.le_refl _⟩
  · rw [← hw3, show w.heap.size + 1 + 1 = w2.heap.size by omega]
    exact World.ownsRow_lit w2 _ 1 (by omega) (by decide) rfl
  · rintro b rfl
    exact ⟨by omega, by omega, _, r13⟩
  · intro x hx
    simp only [List.mem_singleton] at hx
    subst hx
    exact ⟨rfl, root⟩

theorem owns_pop {w : World} {B g cap n : Nat} {T : TypeId} {xs : List Value} {x : Value} (h : w.ownsRow B T 1 (.slice (some ⟨g, 0, none⟩) (n + 1) cap) (n + 1) (xs ++ [x])) :
    w.ownsRow B T 1 (.slice (some ⟨g, 0, none⟩) n cap) n xs ∧ w.cell? ⟨g, n, none⟩ = some x ∧ n + 1 ≤ cap ∧ xs.length = n := by
  have hl : xs.length = n := by have := h.1; simp at this; omega
  have hcell := h.cellAt n (by omega)
  rw [List.getElem?_append_right (by omega), hl, Nat.sub_self] at hcell
  obtain ⟨-, h | ⟨g', cap', cur, e, hb, hg, hc, hm, hs, ht⟩⟩ := h
  · cases h.1
  · simp only [Value.slice.injEq, Option.some.injEq, Addr.mk.injEq, and_true, true_and] at e
    obtain ⟨rfl, rfl⟩ := e
    refine ⟨⟨by omega, .inr ⟨_, _, cur, rfl, hb, hg, by omega, hm, hs, ?_⟩⟩, hcell, hc, hl⟩
    have := congrArg (List.take n) ht
    rw [List.take_take, List.take_append_of_le_length (by omega), List.take_of_length_le (l := xs) (by omega)] at this
    rw [← this]
    congr 1
    omega

theorem Stack.other {B g cap n : Nat} {l : List (Nat × Nat × Tm)} {wr : World} (h : Stack B g cap n l wr) {b q : Nat} (hb : ∃ cur, wr.heap[b]? = some (.cells cur 27 (0, 0))) (u : Value) : Stack B g cap n l (wr.setCell ⟨b, q, none⟩ u) := by
  refine ⟨h.len, h.owns.1, ?_⟩
  rcases h.owns.2 with h2 | ⟨g', cap', cur, hv, hg, hh, r⟩
  · exact .inl h2
  · refine .inr ⟨g', cap', cur, hv, hg, (Below.heap_setCell _ _ _ _ (show g' ≠ b from fun e => ?_)).trans hh, r⟩
    obtain ⟨c, hc⟩ := hb
    rw [← e, hh] at hc
    simp at hc

theorem Stack.keep {B g cap n : Nat} {l : List (Nat × Nat × Tm)} {wr w' : World} (h : Stack B g cap n l wr) (hb : Below wr.heap.size wr w') : Stack B g cap n l w' := by
  refine ⟨h.len, h.owns.1, ?_⟩
  rcases h.owns.2 with h2 | ⟨g', cap', cur, hv, hg, hh, r⟩
  · exact .inl h2
  · exact .inr ⟨g', cap', cur, hv, hg, (hb.block _ (Array.getElem?_eq_some_iff.1 hh).1).trans hh, r⟩

/-- a row of terms copied into a new row -/
theorem copied {w w' : World} {P P' : Nat → Prop} {b off g : Nat} {ts : List Tm} {cs : List Value} {T : TypeId} {fr : Nat × Nat} (h : ∀ i (hi : i < ts.length), TmAt w P b (off + i * 4) ts[i]) (hl : cs.length = ts.length * 4)
    (hc : ∀ j v, cs[j]? = some v → w.cell? ⟨b, off + j, none⟩ = some v) (hg : w'.heap[g]? = some (.cells cs.toArray T fr)) (hP : ∀ b, P b → P' b) (hw : ∀ b, P b → b < w.heap.size → w'.heap[b]? = w.heap[b]?) :
    ∀ i (hi : i < ts.length), TmAt w' P' g (i * 4) ts[i] := by
  intro i hi
  obtain ⟨a, c, x0, x1, x2, x3, it, -⟩ := (h i hi).read
  have cell : ∀ q v, q < 4 → w.cell? ⟨b, off + i * 4 + q, none⟩ = some v → w'.cell? ⟨g, i * 4 + q, none⟩ = some v := fun q v hq hv => by
    have hlt : i * 4 + q < cs.length := by omega
    have h1 := hc (i * 4 + q) cs[i * 4 + q] (List.getElem?_eq_getElem hlt)
    rw [← Nat.add_assoc, hv] at h1
    rw [cell_of_row w' g _ _ _ _ hg]
    simp only [List.getElem?_toArray, List.getElem?_eq_getElem hlt]
    exact h1.symm
  exact TmAt.mk' (cell 0 _ (by omega) x0) (cell 1 _ (by omega) x1) (cell 2 _ (by omega) x2) (cell 3 _ (by omega) x3) (it.imp hP hw).args

theorem info_term : (Try.prog.info? 27).map (fun i => (i.zero, i.size, i.bytes)) = some (some (.agg #[.int .i64 0, .int .i64 0, .string ⟨#[]⟩, .slice none 0 0]), 4, 56) := by kernel_rfl
theorem info_ptr : (Try.prog.info? 96).map (fun i => (i.zero, i.size, i.bytes)) = some (some (.pointer none), 1, 8) := by kernel_rfl

theorem own_row {w : World} {B g n cap k : Nat} {T : TypeId} {xs : List Value} (h : w.ownsRow B T k (.slice (some ⟨g, 0, none⟩) n cap) n xs) : ∃ cur, w.heap[g]? = some (.cells cur T (0, 0)) ∧ cur.size = cap * k := by
  obtain ⟨-, h | ⟨g', cap', cur, e, hb, hg, hc, hm, hs, ht⟩⟩ := h
  · cases h.1
  · simp only [Value.slice.injEq, Option.some.injEq, Addr.mk.injEq, and_true, true_and] at e
    obtain ⟨rfl, rfl⟩ := e
    exact ⟨cur, hg, hs⟩

def InnRel (t : Tm) (P : Nat → Prop) (w : World) (B : Nat) (S : Nat → Prop) (l0 : List (Nat × Nat × Tm)) (xa : List Tm) (g2 : Nat) (v3 c : Value) (wr : World) : Prop :=
  ∃ (l : List (Nat × Nat × Tm)) (g cap n j : Nat), c = .int .i64 j ∧ j ≤ xa.length ∧ v3 = .slice (some ⟨g, 0, none⟩) n cap ∧ Stack B g cap n l wr ∧ OwnInv t P S w B l wr ∧ (∀ i (hi : i < xa.length), TmAt wr (SP P S) g2 (i * 4) xa[i]) ∧ S g2 ∧ sumSz l = sumSz l0 + sizeL (xa.take j)

theorem one_news (w : World) (x : Value) (T : TypeId) : ∀ j u, [x][j]? = some u → (w.alloc (.cells #[x] T (0, 0))).cell? (Addr.add ⟨w.heap.size, 0, none⟩ j) = some u := by
  intro j u h
  rw [Addr.add_lit, cell_of_row _ _ _ _ _ _ (heap_alloc_new w _)]
  match j with
  | 0 => simpa using h
  | j + 1 => simp at h

theorem own_push {t : Tm} {P S : Nat → Prop} {w : World} {B : Nat} {l : List (Nat × Nat × Tm)} {wr w' : World} {g cap n b o : Nat} {u : Tm} {v' : Value} {x : Value} (hs : Stack B g cap n l wr) (h : OwnInv t P S w B l wr) (hb : S b) (hu : TmAt wr (SP P S) b o u)
    (hown : w'.ownsRow B 96 1 v' (n + 1) (l.map ptrOf ++ [ptrOf (b, o, u)])) (hg : (wr.alloc (.cells #[x] 96 (0, 0))).grownBy w' (some g)) :
    ∃ g' cap', v' = .slice (some ⟨g', 0, none⟩) (n + 1) cap' ∧ Stack B g' cap' (n + 1) (l ++ [(b, o, u)]) w' ∧ OwnInv t P S w B (l ++ [(b, o, u)]) w' ∧ ∀ q j y, S q → TmAt wr (SP P S) q j y → TmAt w' (SP P S) q j y := by
  obtain ⟨cg, hcg, hBg⟩ := hs.blk
  have hsz : B + 1 < wr.heap.size := (Array.getElem?_eq_some_iff.1 h.res).1
  have hbel : Below B wr w' := ((Below.refl B wr).alloc (by omega) _).grown hg (by simp; omega) (by intro k e; cases e; exact hBg)
  have hk : ∀ b cur, B ≤ b → wr.heap[b]? = some (.cells cur 27 (0, 0)) → w'.heap[b]? = wr.heap[b]? := fun b cur _ hc => by
    have hlt := (Array.getElem?_eq_some_iff.1 hc).1
    refine (hg.block b (by simp; omega) fun e => ?_).trans (heap_alloc_old _ _ hlt)
    cases e
    rw [hcg] at hc
    simp at hc
  have k := h.keep hbel hk
  have rd : ∀ q j y, S q → TmAt wr (SP P S) q j y → TmAt w' (SP P S) q j y := fun q j y hq hy => hy.imp (fun _ h => h) (fun b hs _ => by
    rcases hs with hs | hs
    · exact hbel.block b (h.theirs b hs)
    · obtain ⟨h1, -, cur, hc⟩ := h.mine b hs
      exact hk b cur h1 hc) _ _ _ (.inr hq)
  have ho := hown
  obtain ⟨-, h0 | ⟨g', cap', cur, e, -⟩⟩ := hown
  · exact absurd h0.2 (by omega)
  · subst e
    exact ⟨g', cap', rfl, ⟨by simp [hs.len], by simpa using ho⟩, k.more hb (rd _ _ _ hb hu), rd⟩

theorem sizeL_take : ∀ (l : List Tm) (j : Nat), sizeL (l.take j) ≤ sizeL l
  | [], j => by simp [sizeL]
  | t :: l, 0 => by simp [sizeL]
  | t :: l, j + 1 => by have := sizeL_take l j; simp only [List.take_succ_cons, sizeL]; omega
theorem sizeL_succ : ∀ (l : List Tm) (j : Nat) (h : j < l.length), sizeL (l.take (j + 1)) = sizeL (l.take j) + l[j].size
  | t :: l, 0, _ => by simp [sizeL]
  | t :: l, j + 1, h => by have := sizeL_succ l j (by simpa using h); simp only [List.take_succ_cons, sizeL, List.getElem_cons_succ]; omega

theorem own_end {t : Tm} {P S : Nat → Prop} {w wr : World} {l : List (Nat × Nat × Tm)} {v : Value} {cs : Array Value} (inv : OwnInv t (fun b => P b ∧ b < w.heap.size) S w w.heap.size l wr) (it : IsTm wr (SP (fun b => P b ∧ b < w.heap.size) S) v t) :
    MakesTm P t w (.returned v) (wr.setRow (w.heap.size + 1) cs) := by
  refine ⟨v, rfl, it.imp (fun b h => ?_) fun b h _ => setRow_other _ _ _ _ ?_, inv.below.trans ⟨rfl, rfl, rfl, by simp, fun k hk => setRow_other _ _ _ _ (by omega)⟩⟩
  · rcases h with h | h
    · exact .inl h.1
    · exact .inr (inv.mine b h).1
  · rcases h with h | h
    · have := h.2; omega
    · exact (inv.mine b h).2.1

set_option maxHeartbeats 1600000 in
theorem flt_own (t : Tm) (v : Value) (P : Nat → Prop) (w : World) (hM : t.size ≤ 1000000000) (h : IsTm w P v t) :
    Calls Try.prog 69 #[v] w (MakesTm P t w) := by
  have hl := h.lt
  clear h
  obtain ⟨a, cap, rfl⟩ := hl.form
  have hst := own_start t _ w a cap hl fun b h => h.2
  have HST := Lib.hid hst
  clear hl hst
  go_enter Try.func69, Try.ntmps69
  go_wp2
  go_loopg [3] t.size (fun k v3 wr => OwnRel t (fun b => P b ∧ b < w.heap.size) w w.heap.size k v3 wr)
  case atStart => exact HST.out
  case round =>
    obtain ⟨S, l, g, cp, n, rfl, hst, inv, hk, hkt⟩ := hrel
    clear HST
    rcases nil_or_snoc l with rfl | ⟨l', x, rfl⟩
    · obtain rfl : n = 0 := hst.len.symm
      have hread := inv.root.2.read
      have hres := inv.res
      have INV := Lib.hid inv
      have HRES := Lib.hid hres
      obtain ⟨a', c', x0, x1, x2, x3, it, hlt⟩ := hread
      have IT := Lib.hid it
      clear inv hres it hst
      go_wp2_with (refine wpList_store_row rfl 27 (.tmp 2) (.tmp 59) rfl (w.heap.size + 1) #[.int .i64 t.k, .int .i64 t.n, .string t.s, .slice a' t.args.length c'] rfl rfl _ _ HRES.out size_term rfl (one4 _ _ _ _ _ _) ?_)
      have hz := setRow_heap wr (w.heap.size + 1) _ (#[.int .i64 t.k, .int .i64 t.n, .string t.s, .slice a' t.args.length c'] : Array Value) _ _ HRES.out
      refine bodyPost_ret (v := .agg #[.int .i64 t.k, .int .i64 t.n, .string t.s, .slice a' t.args.length c']) (results_cell_row Try.results69 _ _ (w.heap.size + 1) _ _ _ _ rfl hz Try.underlying27 rfl (by kernel_rfl)) rfl (own_end INV.out IT.out)
    · have em : (l' ++ [x]).map ptrOf = l'.map ptrOf ++ [ptrOf x] := by simp
      obtain ⟨hn, hown⟩ := hst
      obtain ⟨m, rfl⟩ : ∃ m, n = m + 1 := ⟨l'.length, by rw [← hn]; simp⟩
      have hm : l'.length = m := by simpa using hn
      rw [em] at hown
      obtain ⟨hown', hcell, hcap, -⟩ := owns_pop hown
      have hstk : Stack w.heap.size g cp m l' wr := ⟨hm, hown'⟩
      obtain ⟨hSx, hx⟩ := inv.items x (by simp)
      have hsum : sumSz l' + x.2.2.size ≤ gk := by have := sumSz_app l' [x]; simp only [sumSz] at this; omega
      obtain ⟨xb, xo, xt⟩ := x
      obtain ⟨xk, xn, xs, xa⟩ := xt
      dsimp only at hcell hSx hx hsum
      have hread := hx.read
      obtain ⟨ba, bc, x0, x1, x2, x3, it, hlt⟩ := hread
      obtain ⟨hSB, hS1, cur, hcur⟩ := inv.mine xb hSx
      have hfz := frozen_of_row wr xb (xo + 3) cur _ hcur
      simp only [Tm.k, Tm.n, Tm.s, Tm.args] at x0 x1 x2 x3 it
      have hmb : m + 1 ≤ 1000000000 := by have := len_sumSz l'; have := size_pos (.mk xk xn xs xa); omega
      have hxb : xa.length ≤ 1000000000 := by have := len_le xa; simp only [Tm.size] at hsum; omega
      have hgk : 0 < gk := by have := size_pos (.mk xk xn xs xa); omega
      have INV := Lib.hid inv.less
      have HA := Lib.hid (show IsSl wr (SP (fun b => P b ∧ b < w.heap.size) S) (.slice ba xa.length bc) xa from it.args)
      have HST := Lib.hid hstk
      have HS := Lib.hid hsum
      have HSX := Lib.hid hSx
      have hB1 : w.heap.size + 1 < wr.heap.size := (Array.getElem?_eq_some_iff.1 inv.res).1
      have HC := Lib.hid hcur
      clear inv it hx hown hown' em hn hcur hm hstk hsum hSx hk
      by_cases hz : xa.length = 0
      · obtain rfl : xa = [] := List.eq_nil_of_length_eq_zero hz
        simp only [List.length_nil] at x3
        have hturn := (INV.out.turn (c2 := 0) (us := []) HSX.out x3 rfl (argsFrom_mk (by simp)) (argsFrom_mk (a := none) (by simp))).1
        have HT := Lib.hid hturn
        clear hturn hz
        go_wp2
        go_roundg (gk - 1)
        case measure => omega
        case rel =>
          have hs := HS.out
          simp only [Tm.size] at hs
          exact ⟨S, l', g, cp, m, rfl, HST.out.other ⟨cur, HC.out⟩ _, HT.out, by omega, by omega⟩
      · obtain ⟨bb, oo, rfl⟩ : ∃ bb oo, ba = some ⟨bb, oo, none⟩ := by obtain ⟨b, o, e, -⟩ := HA.out.at 0 (Nat.pos_of_ne_zero hz); exact ⟨b, o, e⟩
        obtain ⟨i0, hi, hz0, hz1, hz2⟩ := info_parts info_term
        have hat : ∀ i (hi : i < xa.length), SP (fun b => P b ∧ b < w.heap.size) S bb ∧ TmAt wr (SP (fun b => P b ∧ b < w.heap.size) S) bb (oo + i * 4) xa[i] := fun i hi => by
          obtain ⟨b, o, e, hp, ht⟩ := HA.out.at i hi
          simp only [Option.some.injEq, Addr.mk.injEq, and_true] at e
          obtain ⟨rfl, rfl⟩ := e
          exact ⟨hp, ht⟩
        have HAT := Lib.hid hat
        have HLT := Lib.hid (show w.heap.size < wr.heap.size by omega)
        clear hat
        have hz' : ((xa.length : Int) == 0) = false := by rw [beq_eq_false_iff_ne]; omega
        go_wp2_with (first
          | (at_make; refine wpList_make_full _ rfl (.tmp 35) (.tmp 35) 25 rfl wr.heap.size 27 i0 _ 4 Try.underlying25 hi hz0 hz1 .i64 .i64 _ _ xa.length rfl rfl rfl rfl (by rw [hz2]; omega) (by unfold maxLen; omega) (Nat.le_refl _) ?_
             intro w1 hown1 hgrow1
             obtain ⟨row, hrow, hrs⟩ := own_row hown1
             have hb1 : Below wr.heap.size wr w1 := (Below.refl _ _).grown hgrow1 (Nat.le_refl _) (by simp)
             have hl1 : wr.heap.size < w1.heap.size := (Array.getElem?_eq_some_iff.1 hrow).1
             have X3 := Lib.hid x3
             have x3 : w1.cell? ⟨xb, xo + 3, none⟩ = some (.slice (some ⟨bb, oo, none⟩) xa.length bc) := (hb1.cell (p := ⟨xb, xo + 3, none⟩) hlt).trans x3
             have HAT1 : Hid (∀ i (hi : i < xa.length), TmAt w1 (SP (fun b => P b ∧ b < w.heap.size) S) bb (oo + i * 4) xa[i]) := Lib.hid fun i hi => (HAT.out i hi).2.imp (fun _ h => h) (fun b _ h => hb1.block b h) _ _ _ (HAT.out i hi).1
             obtain ⟨cs, hcl, hcc, hc1⟩ := row_cells HAT1.out
             have HROW := Lib.hid hrow
             have HRS := Lib.hid hrs
             have HB1 := Lib.hid hb1
             have HCL := Lib.hid hcl
             have HCC := Lib.hid hcc
             have HC1 := Lib.hid hc1
             clear hrow hrs hb1 hown1 hgrow1 hcl hcc hc1)
          | (with_reducible show wpList _ _ _ (⟨some 42, _, _, _, _, _⟩ :: _) _ _; go_loud (refine wpList_copy_all (o := ⟨some 42, _, _, _, _, _⟩) rfl (.tmp 37) (.tmp 41) 25 25 rfl 27 4 xa.length wr.heap.size _ _ ⟨bb, oo, none⟩ Try.underlying25 size_term rfl rfl _ _ cs HROW.out HCL.out HRS.out (fun j v h => by rw [Addr.add_lit]; exact HCC.out j v h) HC1.out ?_)
             have hg2 := setRow_heap w1 wr.heap.size _ cs.toArray _ _ HROW.out
             have hb2 : Below wr.heap.size wr (w1.setRow wr.heap.size cs.toArray) := below_setRow HB1.out (Nat.le_refl _) _
             have HAT2 := Lib.hid (copied (P' := SP (fun b => P b ∧ b < w.heap.size) (fun b => S b ∨ b = wr.heap.size)) HAT1.out HCL.out HCC.out hg2 (fun b h => h.elim .inl fun h => .inr (.inl h)) (fun b h hb => setRow_other _ _ _ _ (by
               rcases h with h | h
               · have := h.2; have := HLT.out; omega
               · have := (INV.out.mine b h).2.2; obtain ⟨c, e⟩ := this; have := (Array.getElem?_eq_some_iff.1 e).1; omega)))
             have inv2 := INV.out.new hb2 hB1 hg2
             have hst2 := HST.out.keep hb2
             have hlt2 : wr.heap.size < (w1.setRow wr.heap.size cs.toArray).heap.size := by simp; omega
             have hcur2 : (w1.setRow wr.heap.size cs.toArray).heap[xb]? = some (.cells cur 27 (0, 0)) := (hb2.block _ hlt).trans HC.out
             have x32 : (w1.setRow wr.heap.size cs.toArray).cell? ⟨xb, xo + 3, none⟩ = some (.slice (some ⟨bb, oo, none⟩) xa.length bc) := (hb2.cell (p := ⟨xb, xo + 3, none⟩) hlt).trans X3.out
             have hfz2 : (w1.setRow wr.heap.size cs.toArray).frozen? ⟨xb, xo + 3, none⟩ = false := frozen_of_row _ xb (xo + 3) cur _ hcur2
             clear x3 hl1
             generalize w1.setRow wr.heap.size cs.toArray = w2 at *
             have INV2 := Lib.hid inv2
             have HST2 := Lib.hid hst2
             have HCUR2 := Lib.hid hcur2
             have HG2 := Lib.hid hg2
             have HB2 := Lib.hid hb2
             clear inv2 hst2 hcur2 hg2 hb2 hfz hlt2 x0 x1 x2))
        have old2 : ArgsFrom w2 (SP (fun b => P b ∧ b < w.heap.size) (fun b => S b ∨ b = wr.heap.size)) (some ⟨bb, oo, none⟩) 0 xa := argsFrom_mk fun i hi =>
          ⟨bb, oo, rfl, (HAT.out i hi).1.elim .inl fun h => .inr (.inl h), (HAT.out i hi).2.imp (fun b h => h.elim .inl fun h => .inr (.inl h)) (fun b _ h => HB2.out.block b h) _ _ _ (HAT.out i hi).1⟩
        have new2 : ArgsFrom w2 (SP (fun b => P b ∧ b < w.heap.size) (fun b => S b ∨ b = wr.heap.size)) (some ⟨wr.heap.size, 0, none⟩) 0 xa := argsFrom_mk fun i hi => ⟨wr.heap.size, 0, rfl, .inr (.inr rfl), by rw [Nat.zero_add]; exact HAT2.out i hi⟩
        obtain ⟨inv3, rd3⟩ := INV2.out.turn (c2 := xa.length) (g := xb) (.inl HSX.out) x32 rfl old2 new2
        have hst3 := HST2.out.other (b := xb) (q := xo + 3) ⟨cur, HCUR2.out⟩ (.slice (some ⟨wr.heap.size, 0, none⟩) xa.length xa.length)
        have hin3 : InnRel t (fun b => P b ∧ b < w.heap.size) w w.heap.size (fun b => S b ∨ b = wr.heap.size) l' xa wr.heap.size (.slice (some ⟨g, 0, none⟩) m cp) (.int .i64 ((0 : Nat) : Int)) (w2.setCell ⟨xb, xo + 3, none⟩ (.slice (some ⟨wr.heap.size, 0, none⟩) xa.length xa.length)) :=
          ⟨l', g, cp, m, 0, rfl, by omega, rfl, hst3, inv3, fun i hi => rd3 _ _ _ (HAT2.out i hi), .inr rfl, by simp [sizeL]⟩
        have HIN := Lib.hid hin3
        clear old2 new2 inv3 rd3 hst3 hin3 x32 hfz2 hcell hz x3
        generalize w2.setCell ⟨xb, xo + 3, none⟩ (.slice (some ⟨wr.heap.size, 0, none⟩) xa.length xa.length) = w3 at *
        clear HA HAT X3 HAT1 HROW HRS HB1 HCL HCC HC1 HAT2 INV2 HST2 HCUR2 HG2 HB2 INV HST HC hi hz0 hz1 hz2
        generalize wr.heap.size = g2 at *
        go_loopw [3, 49] (fun v3 c w4 => InnRel t (fun b => P b ∧ b < w.heap.size) w w.heap.size (fun b => S b ∨ b = g2) l' xa g2 v3 c w4) (fun _ c _ => xa.length - (intOf c).toNat)
        case atStart => exact HIN.out
        case round =>
          obtain ⟨l4, g4, cp4, n4, j, rfl, hj, rfl, hst4, inv4, hat4, hs4, hsum4⟩ := hrel
          clear HIN
          have HST4 := Lib.hid hst4
          have HAT4 := Lib.hid hat4
          have hB4 : w.heap.size + 1 < wr.heap.size := (Array.getElem?_eq_some_iff.1 inv4.res).1
          have hn4 : n4 ≤ 1000000000 := by
            have h1 := hst4.len
            have h2 := len_sumSz l4
            have h3 := sizeL_take xa j
            have h4 := HS.out
            simp only [Tm.size] at h4
            omega
          have INV4 := Lib.hid inv4
          have HSUM4 := Lib.hid hsum4
          clear hst4 inv4 hat4 hsum4
          by_cases hjn : j < xa.length
          · obtain ⟨i1, hi1, hw0, hw1, hw2⟩ := info_parts info_ptr
            have hjn' : (j : Int) < (xa.length : Int) := by omega
            have hj0 : (0 : Int) ≤ (j : Int) := by omega
            go_wp2_with (
              (at_builtin; refine wpList_append_own _ rfl (.tmp 52) (.tmp 56) 97 rfl w.heap.size 96 i1 (.pointer none) 1 8 Try.underlying97 hi1 hw0 hw1 hw2 rfl (by decide) _ n4 (l4.map ptrOf) rfl (HST4.out.owns.alloc _) ⟨wr.heap.size, 0, none⟩ 1 1 [ptrOf (g2, j * 4, xa[j])] rfl rfl (one_news wr _ _) (by simp [Value.oneCell']) (by unfold maxLen; omega) (by omega) (by simp; omega) ?_
               intro v5 w5 hown5 hgr5 _
               obtain ⟨g5, cp5, rfl, hst5, inv5, rd5⟩ := own_push HST4.out INV4.out hs4 (HAT4.out j hjn) hown5 hgr5
               have HST5 := Lib.hid hst5
               have INV5 := Lib.hid inv5
               have RD5 := Lib.hid rd5
               clear hst5 inv5 rd5 hown5 hgr5))
            go_roundw
            case rel => exact ⟨_, g5, cp5, n4 + 1, j + 1, by go_num, by omega, rfl, HST5.out, INV5.out, fun i hi => RD5.out _ _ _ hs4 (HAT4.out i hi), hs4, by have h1 := sumSz_app l4 [(g2, j * 4, xa[j])]; have h2 := sizeL_succ xa j hjn; have h3 := HSUM4.out; simp only [sumSz] at h1; omega⟩
            case measure => simp [intOf]; omega
          · obtain rfl : j = xa.length := by omega
            go_wp2
            go_roundg (gk - 1)
            case measure => omega
            case rel =>
              have hs := HS.out
              have hs4 := HSUM4.out
              rw [List.take_length] at hs4
              simp only [Tm.size] at hs
              exact ⟨_, l4, g4, cp4, n4, rfl, HST4.out, INV4.out, by omega, by omega⟩
end Go.Proofs.Ytokhiolimioicaa.Tms
