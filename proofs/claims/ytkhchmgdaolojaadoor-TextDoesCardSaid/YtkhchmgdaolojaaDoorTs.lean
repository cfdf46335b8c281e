
/-
  A slice of terms that the call itself makes by append: what it owns, and what it reads as.
-/
import Derived.Test.YtkhchmgdaolojaaDoorGna
import Derived.Test.YtkhchmgdaolojaaDoorBas
namespace Go.Proofs.YtkhchmgdaolojaaDoor.Tms
open Go Go.RowKit Go.Proofs.YtkhchmgdaolojaaDoor.Reg

/-- these cells are these terms', four each -/
def CellsOf (w : World) (P : Nat → Prop) : List Value → List Tm → Prop
  | [], [] => True
  | k :: n :: s :: l :: rest, t :: ts => k = .int .i64 t.k ∧ n = .int .i64 t.n ∧ s = .string t.s ∧ (∃ a c, l = .slice a t.args.length c ∧ ArgsFrom w P a 0 t.args) ∧ CellsOf w P rest ts
  | _, _ => False

theorem CellsOf.imp2 {w w' : World} {P P' : Nat → Prop} (hP : ∀ b, P b → P' b) (hw : ∀ b, P b → b < w.heap.size → w'.heap[b]? = w.heap[b]?) : ∀ {xs : List Value} {ts : List Tm}, CellsOf w P xs ts → CellsOf w' P' xs ts
  | [], [], _ => trivial
  | _ :: _ :: _ :: _ :: _, _ :: _, ⟨h1, h2, h3, ⟨a, c, e, h4⟩, h5⟩ => ⟨h1, h2, h3, ⟨a, c, e, ArgsFrom.imp hP hw _ _ _ h4⟩, CellsOf.imp2 hP hw h5⟩
  | [], _ :: _, h => h.elim
  | _ :: [], [], h => h.elim
  | _ :: [], _ :: _, h => h.elim
  | _ :: _ :: [], [], h => h.elim
  | _ :: _ :: [], _ :: _, h => h.elim
  | _ :: _ :: _ :: [], [], h => h.elim
  | _ :: _ :: _ :: [], _ :: _, h => h.elim
  | _ :: _ :: _ :: _ :: _, [], h => h.elim

theorem CellsOf.snoc {w : World} {P : Nat → Prop} {c0 c1 c2 c3 : Value} {t : Tm} (ht : IsTm w P (.agg #[c0, c1, c2, c3]) t) : ∀ {xs : List Value} {ts : List Tm}, CellsOf w P xs ts → CellsOf w P (xs ++ [c0, c1, c2, c3]) (ts ++ [t])
  | [], [], _ => by
    obtain ⟨a, c, e, h⟩ := ht
    simp only [Value.agg.injEq, Array.mk.injEq, List.cons.injEq, and_true] at e
    obtain ⟨rfl, rfl, rfl, rfl⟩ := e
    exact ⟨rfl, rfl, rfl, ⟨a, c, rfl, h⟩, trivial⟩
  | _ :: _ :: _ :: _ :: _, _ :: _, ⟨h1, h2, h3, h4, h5⟩ => ⟨h1, h2, h3, h4, CellsOf.snoc ht h5⟩
  | [], _ :: _, h => h.elim
  | _ :: [], [], h => h.elim
  | _ :: [], _ :: _, h => h.elim
  | _ :: _ :: [], [], h => h.elim
  | _ :: _ :: [], _ :: _, h => h.elim
  | _ :: _ :: _ :: [], [], h => h.elim
  | _ :: _ :: _ :: [], _ :: _, h => h.elim
  | _ :: _ :: _ :: _ :: _, [], h => h.elim

theorem CellsOf.at_ {w : World} {P : Nat → Prop} {g : Nat} : ∀ {xs : List Value} {ts : List Tm} (o : Nat), CellsOf w P xs ts → (∀ j v, xs[j]? = some v → w.cell? ⟨g, o + j, none⟩ = some v) → ∀ i (hi : i < ts.length), TmAt w P g (o + i * 4) ts[i]
  | [], [], _, _, _, i, hi => by simp at hi
  | k :: n :: s :: l :: rest, t :: ts, o, ⟨h1, h2, h3, ⟨a, c, e, h4⟩, h5⟩, hc, 0, _ => by
    have x0 := hc 0 _ rfl
    have x1 := hc 1 _ rfl
    have x2 := hc 2 _ rfl
    have x3 := hc 3 _ rfl
    rw [h1] at x0; rw [h2] at x1; rw [h3] at x2; rw [e] at x3
    simp only [Nat.add_zero, Nat.zero_mul, List.getElem_cons_zero] at x0 ⊢
    exact TmAt.mk' x0 x1 x2 x3 ⟨a, c, rfl, h4⟩
  | k :: n :: s :: l :: rest, t :: ts, o, ⟨_, _, _, _, h5⟩, hc, i + 1, hi => by
    have := CellsOf.at_ (o + 4) h5 (fun j v hj => by rw [show o + 4 + j = o + (j + 4) by omega]; exact hc (j + 4) v (by simpa using hj)) i (by simpa using hi)
    rw [show o + (i + 1) * 4 = o + 4 + i * 4 by omega]
    exact this
  | [], _ :: _, _, h, _, _, _ => h.elim
  | _ :: [], [], _, h, _, _, _ => h.elim
  | _ :: [], _ :: _, _, h, _, _, _ => h.elim
  | _ :: _ :: [], [], _, h, _, _, _ => h.elim
  | _ :: _ :: [], _ :: _, _, h, _, _, _ => h.elim
  | _ :: _ :: _ :: [], [], _, h, _, _, _ => h.elim
  | _ :: _ :: _ :: [], _ :: _, _, h, _, _, _ => h.elim
  | _ :: _ :: _ :: _ :: _, [], _, h, _, _, _ => h.elim

/-- the slice value v owns a row of the call's own, from block 'base' on; it reads as ts, through blocks of P that are not that row -/
def OwnSl (w : World) (base : Nat) (P : Nat → Prop) (v : Value) (ts : List Tm) : Prop :=
  ∃ xs, w.ownsRow base 28 4 v ts.length xs ∧ CellsOf w (fun b => P b ∧ v.ownBlock ≠ some b ∧ b < w.heap.size) xs ts

theorem OwnSl.nil (w : World) (base : Nat) (P : Nat → Prop) : OwnSl w base P (.slice none 0 0) [] := ⟨[], World.ownsRow_nil w base _ _, trivial⟩
theorem OwnSl.form {w : World} {base : Nat} {P : Nat → Prop} {v : Value} {ts : List Tm} (h : OwnSl w base P v ts) : ∃ a c, v = .slice a ts.length c := by
  obtain ⟨xs, ⟨-, ⟨rfl, hn⟩ | ⟨g, cap, cur, e, -⟩⟩, -⟩ := h
  · exact ⟨none, 0, by rw [hn]⟩
  · exact ⟨_, _, e⟩
theorem OwnSl.low {w : World} {base : Nat} {P : Nat → Prop} {v : Value} {ts : List Tm} (h : OwnSl w base P v ts) : ∀ k, v.ownBlock = some k → base ≤ k ∧ k < w.heap.size := h.choose_spec.1.lt

theorem OwnSl.below {w w' : World} {base : Nat} {P : Nat → Prop} {v : Value} {ts : List Tm} (h : OwnSl w base P v ts) (hb : Below w.heap.size w w') : OwnSl w' base P v ts := by
  obtain ⟨xs, h1, h2⟩ := h
  refine ⟨xs, ⟨h1.1, ?_⟩, h2.imp2 (fun b h => ⟨h.1, h.2.1, Nat.lt_of_lt_of_le h.2.2 hb.size⟩) fun b _ hlt => hb.block b hlt⟩
  rcases h1.2 with h | ⟨g, cap, cur, e, h, hg, rest⟩
  · exact .inl h
  · exact .inr ⟨g, cap, cur, e, h, (hb.block g (Array.getElem?_eq_some_iff.1 hg).1).trans hg, rest⟩

theorem OwnSl.push {w w' : World} {base : Nat} {P : Nat → Prop} {v v' : Value} {ts : List Tm} {c0 c1 c2 c3 : Value} {t : Tm} {cs : Array Value} {xs : List Value} {T : TypeId} (h : OwnSl w base P v ts) (ht : IsTm w (fun b => P b ∧ v.ownBlock ≠ some b) (.agg #[c0, c1, c2, c3]) t)
    (hx : w.ownsRow base 28 4 v ts.length xs) (hown : w'.ownsRow base 28 4 v' (ts.length + 1) (xs ++ [c0, c1, c2, c3])) (hg : (w.alloc (.cells cs T (0, 0))).grownBy w' v.ownBlock) (hbase : base ≤ w.heap.size)
    (hv : ∀ k, v'.ownBlock = some k → v.ownBlock = some k ∨ w.heap.size ≤ k) :
    OwnSl w' base P v' (ts ++ [t]) ∧ Below base w w' := by
  obtain ⟨xs', h1, h2⟩ := h
  have ex : xs' = xs := by
    rcases h1.2 with ⟨rfl, hn⟩ | ⟨g, cap, cur, e, -, hg, -, -, -, ht⟩
    · have a := h1.1; have b := hx.1; rw [hn] at a b; simp at a b; rw [a, b]
    · rcases hx.2 with ⟨e', hn⟩ | ⟨g', cap', cur', e', -, hg', -, -, -, ht'⟩
      · rw [e] at e'; cases e'
      · rw [e] at e'
        simp only [Value.slice.injEq, Option.some.injEq, Addr.mk.injEq, and_true] at e'
        obtain ⟨rfl, -, -⟩ := e'
        rw [hg] at hg'
        simp only [Option.some.injEq, Obj.cells.injEq, and_true] at hg'
        rw [← ht, ← ht', hg']
  subst ex
  have hblk : ∀ b, b < w.heap.size → v.ownBlock ≠ some b → w'.heap[b]? = w.heap[b]? := fun b hb hne => (hg.block b (by simp; omega) fun e => hne e.symm).trans (heap_alloc_old _ _ hb)
  have hsz : w.heap.size < w'.heap.size := by have := hg.size; simp at this; omega
  have hne : ∀ b, b < w.heap.size → v.ownBlock ≠ some b → v'.ownBlock ≠ some b := fun b hb h e => by
    rcases hv b e with h' | h'
    · exact h h'
    · omega
  have ht' : IsTm w (fun b => P b ∧ v.ownBlock ≠ some b ∧ b < w.heap.size) (.agg #[c0, c1, c2, c3]) t := ht.lt.imp (fun b h => ⟨h.1.1, h.1.2, h.2⟩) fun _ _ _ => rfl
  refine ⟨⟨xs' ++ [c0, c1, c2, c3], by simpa using hown, (h2.snoc ht').imp2 (fun b h => ⟨h.1, hne b h.2.2 h.2.1, by omega⟩) fun b h _ => hblk b h.2.2 h.2.1⟩, ?_⟩
  exact ((Below.refl base w).alloc hbase _).grown hg (by simp; omega) fun k e => (h1.lt k e).1

theorem OwnSl.reads {w : World} {base : Nat} {P : Nat → Prop} {v : Value} {ts : List Tm} (h : OwnSl w base P v ts) : IsSl w (fun b => P b ∨ base ≤ b) v ts := by
  obtain ⟨xs, h1, h2⟩ := h
  have h3 := h2.imp2 (P' := fun b => P b ∨ base ≤ b) (fun b h => .inl h.1) fun _ _ _ => rfl
  rcases h1.2 with ⟨rfl, hn⟩ | ⟨g, cap, cur, rfl, hb, -⟩
  · obtain rfl : ts = [] := List.eq_nil_of_length_eq_zero hn
    exact IsSl.nil _ _ _ _
  · refine IsSl.mk' fun i hi => ⟨g, 0, rfl, .inr hb, h3.at_ 0 (fun j v hj => ?_) i hi⟩
    have := h1.cells (g := g) rfl j v hj
    rwa [Addr.add_lit] at this
theorem four_news (w : World) (c0 c1 c2 c3 : Value) (T : TypeId) : ∀ j u, [c0, c1, c2, c3][j]? = some u → (w.alloc (.cells #[c0, c1, c2, c3] T (0, 0))).cell? (Addr.add ⟨w.heap.size, 0, none⟩ j) = some u := by
  intro j u h
  rw [Addr.add_lit, cell_of_row _ _ _ _ _ _ (heap_alloc_new w _), Nat.zero_add]
  simpa using h

/-- append of a term to such a slice -/
theorem wpList_push_term {w : World} {ops : Array Oper} {rest : List Oper} {o : Oper} {a : Act} {Q : Exit → Act → World → Prop} (hgd : o.guard = none) (s x : Operand)
    (ho : o.op = .call { callee := .builtin .append, args := #[s, x], argTypes := #[24, 24] }) (base : Nat) (P : Nat → Prop) (v : Value) (ts : List Tm) (c0 c1 c2 c3 : Value) (t : Tm) (c : Nat) (hs : a.eval s = v) (hown : OwnSl w base P v ts)
    {g : Nat} (hx : a.eval x = .slice (some ⟨g, 0, none⟩) 1 c) (hgs : g = w.heap.size) (ht : IsTm w (fun b => P b ∧ v.ownBlock ≠ some b) (.agg #[c0, c1, c2, c3]) t) (hlen : ts.length ≤ 1000000000) (hbase : base ≤ w.heap.size)
    (h : ∀ v' w', OwnSl w' base P v' (ts ++ [t]) → Below base w w' → w.grownBy w' v.ownBlock → (∀ k, v'.ownBlock = some k → v.ownBlock = some k ∨ w.heap.size ≤ k) → wpList Tryd.prog ops Q rest (a.put o.dst v') w') : wpList Tryd.prog ops Q (o :: rest) a (w.alloc (.cells #[c0, c1, c2, c3] 28 (0, 0))) := by
  subst hgs
  obtain ⟨i0, hi, hz0, hz1, hz2⟩ := info_parts info_term
  obtain ⟨xs, h1, h2⟩ := id hown
  have hone : ∀ u ∈ [c0, c1, c2, c3], u.oneCell' = true := by
    obtain ⟨q, r, e⟩ := ht.form
    simp only [Value.agg.injEq, Array.mk.injEq, List.cons.injEq, and_true] at e
    obtain ⟨rfl, rfl, rfl, rfl⟩ := e
    simp [Value.oneCell']
  refine Push.wpList_push hgd s x 24 ho base 28 i0 _ 4 56 Tryd.underlying24 hi hz0 hz1 hz2 rfl (by decide) v ts.length xs hs (h1.alloc _) ⟨w.heap.size, 0, none⟩ c [c0, c1, c2, c3] hx rfl (four_news w c0 c1 c2 c3 _) hone (by unfold maxLen; omega) (by omega) (by simp; omega) ?_
  intro v' w' hown' hg hv
  have hv' : ∀ k, v'.ownBlock = some k → v.ownBlock = some k ∨ w.heap.size ≤ k := fun k hk => (hv k hk).elim .inl fun h => .inr (by simp at h; omega)
  obtain ⟨r1, r2⟩ := hown.push ht h1 hown' hg hbase hv'
  exact h v' w' r1 r2 ⟨hg.os, hg.tape, hg.output, by have := hg.size; simp at this; omega, fun k hk hne => (hg.block k (by simp; omega) hne).trans (heap_alloc_old _ _ hk)⟩ hv'
theorem OwnSl.rows {w : World} {base : Nat} {P : Nat → Prop} {v : Value} {ts : List Tm} {xs : List Value} (h : OwnSl w base P v ts) (hx : w.ownsRow base 28 4 v ts.length xs) : CellsOf w (fun b => P b ∧ v.ownBlock ≠ some b ∧ b < w.heap.size) xs ts := by
  obtain ⟨xs', h1, h2⟩ := h
  have ex : xs' = xs := by
    rcases h1.2 with ⟨rfl, hn⟩ | ⟨g, cap, cur, e, -, hg, -, -, -, ht⟩
    · have a := h1.1; have b := hx.1; rw [hn] at a b; simp at a b; rw [a, b]
    · rcases hx.2 with ⟨e', hn⟩ | ⟨g', cap', cur', e', -, hg', -, -, -, ht'⟩
      · rw [e] at e'; cases e'
      · rw [e] at e'
        simp only [Value.slice.injEq, Option.some.injEq, Addr.mk.injEq, and_true] at e'
        obtain ⟨rfl, -, -⟩ := e'
        rw [hg] at hg'
        simp only [Option.some.injEq, Obj.cells.injEq, and_true] at hg'
        rw [← ht, ← ht', hg']
  subst ex
  exact h2

/-- append of a term whose four cells lie in a block of their own -/
theorem wpList_push_at {w : World} {ops : Array Oper} {rest : List Oper} {o : Oper} {a : Act} {Q : Exit → Act → World → Prop} (hgd : o.guard = none) (s x : Operand)
    (ho : o.op = .call { callee := .builtin .append, args := #[s, x], argTypes := #[24, 24] }) (base : Nat) (P : Nat → Prop) (v : Value) (ts : List Tm) (c0 c1 c2 c3 : Value) (t : Tm) (g c : Nat) (T : TypeId) (fr : Nat × Nat) (hs : a.eval s = v) (hown : OwnSl w base P v ts)
    (hx : a.eval x = .slice (some ⟨g, 0, none⟩) 1 c) (hg : w.heap[g]? = some (.cells #[c0, c1, c2, c3] T fr)) (ht : IsTm w (fun b => P b ∧ v.ownBlock ≠ some b) (.agg #[c0, c1, c2, c3]) t) (hlen : ts.length ≤ 1000000000) (hbase : base ≤ w.heap.size)
    (h : ∀ v' w', OwnSl w' base P v' (ts ++ [t]) → Below base w w' → w.grownBy w' v.ownBlock → (∀ k, v'.ownBlock = some k → v.ownBlock = some k ∨ w.heap.size ≤ k) → wpList Tryd.prog ops Q rest (a.put o.dst v') w') : wpList Tryd.prog ops Q (o :: rest) a w := by
  obtain ⟨i0, hi, hz0, hz1, hz2⟩ := info_parts info_term
  obtain ⟨xs, h1, h2⟩ := id hown
  have hone : ∀ u ∈ [c0, c1, c2, c3], u.oneCell' = true := by
    obtain ⟨q, r, e⟩ := ht.form
    simp only [Value.agg.injEq, Array.mk.injEq, List.cons.injEq, and_true] at e
    obtain ⟨rfl, rfl, rfl, rfl⟩ := e
    simp [Value.oneCell']
  refine Push.wpList_push hgd s x 24 ho base 28 i0 _ 4 56 Tryd.underlying24 hi hz0 hz1 hz2 rfl (by decide) v ts.length xs hs h1 ⟨g, 0, none⟩ c [c0, c1, c2, c3] hx rfl (fun j u hu => by rw [Addr.add_lit, cell_of_row w g _ _ _ _ hg, Nat.zero_add]; simpa using hu) hone (by unfold maxLen; omega) (by omega) hbase ?_
  intro v' w' hown' hgr hv
  have hsz : w.heap.size ≤ w'.heap.size := hgr.size
  have hblk : ∀ b, b < w.heap.size → v.ownBlock ≠ some b → w'.heap[b]? = w.heap[b]? := fun b hb hne => hgr.block b hb fun e => hne e.symm
  have hne : ∀ b, b < w.heap.size → v.ownBlock ≠ some b → v'.ownBlock ≠ some b := fun b hb h e => by
    rcases hv b e with h' | h'
    · exact h h'
    · omega
  have ht' : IsTm w (fun b => P b ∧ v.ownBlock ≠ some b ∧ b < w.heap.size) (.agg #[c0, c1, c2, c3]) t := ht.lt.imp (fun b h => ⟨h.1.1, h.1.2, h.2⟩) fun _ _ _ => rfl
  refine h v' w' ⟨xs ++ [c0, c1, c2, c3], by simpa using hown', ((hown.rows h1).snoc ht').imp2 (fun b h => ⟨h.1, hne b h.2.2 h.2.1, by omega⟩) fun b h _ => hblk b h.2.2 h.2.1⟩ ?_ hgr hv
  exact (Below.refl base w).grown hgr hbase fun k e => (h1.lt k e).1
end Go.Proofs.YtkhchmgdaolojaaDoor.Tms
