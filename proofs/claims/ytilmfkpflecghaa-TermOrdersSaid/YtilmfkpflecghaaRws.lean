
/-
  A slice that the call itself keeps, of elements of whatever kind: what it owns, and what it reads as; an element is taken off its end, one is put behind it. Plain laws over any program.
-/
import Derived.Test.YtilmfkpflecghaaPush
namespace Go.Proofs.Ytilmfkpflecghaa.Rws
open Go Go.RowKit

/-- how cells of a row read as an element, through blocks of P -/
structure Kind (α : Type) where
  T : TypeId
  sz : Nat
  R : World → (Nat → Prop) → List Value → α → Prop
  pos : 0 < sz
  len : ∀ {w P cs a}, R w P cs a → cs.length = sz
  one : ∀ {w P cs a}, R w P cs a → ∀ v ∈ cs, v.oneCell' = true
  mono : ∀ {w w' : World} {P P' : Nat → Prop} {cs a}, (∀ b, P b → P' b) → (∀ b, P b → b < w.heap.size → w'.heap[b]? = w.heap[b]?) → R w P cs a → R w' P' cs a
  lt : ∀ {w : World} {P : Nat → Prop} {cs a}, R w P cs a → R w (fun b => P b ∧ b < w.heap.size) cs a

section
variable {α : Type} (K : Kind α)

/-- rows of cells, one an element -/
def Each (w : World) (P : Nat → Prop) : List (List Value) → List α → Prop
  | [], [] => True
  | cs :: xss, a :: l => K.R w P cs a ∧ Each w P xss l
  | _, _ => False
variable {K}
theorem Each.mono {w w' : World} {P P' : Nat → Prop} (hP : ∀ b, P b → P' b) (hw : ∀ b, P b → b < w.heap.size → w'.heap[b]? = w.heap[b]?) : ∀ {xss : List (List Value)} {l : List α}, Each K w P xss l → Each K w' P' xss l
  | [], [], _ => trivial
  | _ :: _, _ :: _, h => ⟨K.mono hP hw h.1, Each.mono hP hw h.2⟩
  | [], _ :: _, h => h.elim
  | _ :: _, [], h => h.elim
theorem Each.snoc {w : World} {P : Nat → Prop} {cs : List Value} {a : α} (ha : K.R w P cs a) : ∀ {xss : List (List Value)} {l : List α}, Each K w P xss l → Each K w P (xss ++ [cs]) (l ++ [a])
  | [], [], _ => ⟨ha, trivial⟩
  | _ :: _, _ :: _, h => ⟨h.1, Each.snoc ha h.2⟩
  | [], _ :: _, h => h.elim
  | _ :: _, [], h => h.elim
theorem Each.unsnoc {w : World} {P : Nat → Prop} {a : α} : ∀ {xss : List (List Value)} {l : List α}, Each K w P xss (l ++ [a]) → ∃ yss cs, xss = yss ++ [cs] ∧ Each K w P yss l ∧ K.R w P cs a
  | [], [], h => h.elim
  | [cs], [], h => ⟨[], cs, rfl, trivial, h.1⟩
  | _ :: _ :: _, [], h => h.2.elim
  | [], _ :: _, h => h.elim
  | x :: xss, _ :: l, h => by
    obtain ⟨yss, cs, e, h1, h2⟩ := Each.unsnoc h.2
    exact ⟨x :: yss, cs, by rw [e]; rfl, ⟨h.1, h1⟩, h2⟩
theorem Each.flat {w : World} {P : Nat → Prop} : ∀ {xss : List (List Value)} {l : List α}, Each K w P xss l → xss.flatten.length = l.length * K.sz
  | [], [], _ => by simp
  | cs :: xss, a :: l, h => by have := Each.flat h.2; have := K.len h.1; simp only [List.flatten_cons, List.length_append, List.length_cons, Nat.add_mul, Nat.one_mul]; omega
  | [], _ :: _, h => h.elim
  | _ :: _, [], h => h.elim
theorem Each.inj {w : World} {P P' : Nat → Prop} : ∀ {xss yss : List (List Value)} {l : List α}, Each K w P xss l → Each K w P' yss l → xss.flatten = yss.flatten → xss = yss
  | [], [], [], _, _, _ => rfl
  | x :: xss, y :: yss, a :: l, h, h', e => by
    simp only [List.flatten_cons] at e
    obtain ⟨rfl, e2⟩ := List.append_inj e ((K.len h.1).trans (K.len h'.1).symm)
    rw [Each.inj h.2 h'.2 e2]
  | [], _ :: _, _ :: _, h, _, _ => h.elim
  | [], _ :: _, [], _, h, _ => h.elim
  | _ :: _, [], _ :: _, _, h, _ => h.elim
  | _ :: _, [], [], h, _, _ => h.elim
  | _ :: _, _ :: _, [], h, _, _ => h.elim
  | [], [], _ :: _, h, _, _ => h.elim

variable (K)
/-- the slice value v owns a row of the call's own, from block 'base' on; it reads as l, through blocks of P that are not that row -/
def Own (w : World) (base : Nat) (P : Nat → Prop) (v : Value) (l : List α) : Prop :=
  ∃ xss : List (List Value), w.ownsRow base K.T K.sz v l.length xss.flatten ∧ Each K w (fun b => P b ∧ v.ownBlock ≠ some b ∧ b < w.heap.size) xss l
variable {K}
theorem Own.nil (w : World) (base : Nat) (P : Nat → Prop) : Own K w base P (.slice none 0 0) [] := ⟨[], World.ownsRow_nil w base _ _, trivial⟩
theorem Own.low {w : World} {base : Nat} {P : Nat → Prop} {v : Value} {l : List α} (h : Own K w base P v l) : ∀ k, v.ownBlock = some k → base ≤ k ∧ k < w.heap.size := h.choose_spec.1.lt
theorem Own.form {w : World} {base : Nat} {P : Nat → Prop} {v : Value} {l : List α} (h : Own K w base P v l) : (v = .slice none 0 0 ∧ l = []) ∨ ∃ g cap, v = .slice (some ⟨g, 0, none⟩) l.length cap := by
  obtain ⟨xss, ⟨-, ⟨h0, hn⟩ | ⟨g, cap, cur, e, -⟩⟩, -⟩ := h
  · exact .inl ⟨h0, List.eq_nil_of_length_eq_zero hn⟩
  · exact .inr ⟨g, cap, e⟩
theorem Own.below {w w' : World} {base : Nat} {P : Nat → Prop} {v : Value} {l : List α} (h : Own K w base P v l) (hb : Below w.heap.size w w') : Own K w' base P v l := by
  obtain ⟨xss, h1, h2⟩ := h
  refine ⟨xss, ⟨h1.1, ?_⟩, h2.mono (fun b h => ⟨h.1, h.2.1, Nat.lt_of_lt_of_le h.2.2 hb.size⟩) fun b _ hlt => hb.block b hlt⟩
  rcases h1.2 with h | ⟨g, cap, cur, e, h, hg, rest⟩
  · exact .inl h
  · exact .inr ⟨g, cap, cur, e, h, (hb.block g (Array.getElem?_eq_some_iff.1 hg).1).trans hg, rest⟩
/-- a world in which the row, and all that is read through, is as it was -/
theorem Own.keep {w w' : World} {base : Nat} {P : Nat → Prop} {v : Value} {l : List α} (h : Own K w base P v l) (hs : w.heap.size ≤ w'.heap.size) (hk : ∀ b, b < w.heap.size → (P b ∨ v.ownBlock = some b) → w'.heap[b]? = w.heap[b]?) : Own K w' base P v l := by
  obtain ⟨xss, h1, h2⟩ := h
  refine ⟨xss, ⟨h1.1, ?_⟩, h2.mono (fun b h => ⟨h.1, h.2.1, Nat.lt_of_lt_of_le h.2.2 hs⟩) fun b h hlt => hk b hlt (.inl h.1)⟩
  rcases h1.2 with h | ⟨g, cap, cur, e, h, hg, rest⟩
  · exact .inl h
  · exact .inr ⟨g, cap, cur, e, h, (hk g (Array.getElem?_eq_some_iff.1 hg).1 (.inr (by rw [e]; rfl))).trans hg, rest⟩

/-- the last element is taken off: its cells, and what they read as -/
theorem Own.pop {w : World} {base g cap n : Nat} {P : Nat → Prop} {l : List α} {a : α} (h : Own K w base P (.slice (some ⟨g, 0, none⟩) (n + 1) cap) (l ++ [a])) (hn : l.length = n) :
    Own K w base P (.slice (some ⟨g, 0, none⟩) n cap) l ∧ n + 1 ≤ cap ∧ cap ≤ maxLen ∧ ∃ cs, K.R w (fun b => P b ∧ g ≠ b ∧ b < w.heap.size) cs a ∧ ∀ j, j < K.sz → w.cell? ⟨g, n * K.sz + j, none⟩ = cs[j]? := by
  obtain ⟨xss, h1, h2⟩ := h
  obtain ⟨yss, cs, rfl, h3, h4⟩ := h2.unsnoc
  have hy := h3.flat
  have hl := K.len h4
  rw [hn] at hy
  rw [List.flatten_append, List.flatten_singleton] at h1
  have hne : ∀ b, (Value.slice (some ⟨g, 0, none⟩) (n + 1) cap).ownBlock ≠ some b → g ≠ b := fun b h e => h (by simp [Value.ownBlock, e])
  have e1 : (l ++ [a]).length = n + 1 := by simp [hn]
  rw [e1] at h1
  have hcell := fun j (hj : j < K.sz) => h1.cellAt (n * K.sz + j) (by rw [Nat.add_mul]; omega)
  obtain ⟨-, h5 | ⟨g', cap', cur, e, hb, hg, hc, hm, hs, ht⟩⟩ := h1
  · cases h5.1
  · simp only [Value.slice.injEq, Option.some.injEq, Addr.mk.injEq, and_true, true_and] at e
    obtain ⟨rfl, rfl⟩ := e
    refine ⟨⟨yss, ⟨by rw [hn]; exact hy, .inr ⟨_, _, cur, by rw [hn], hb, hg, by omega, hm, hs, ?_⟩⟩, h3.mono (fun b h => ⟨h.1, fun e => h.2.1 (by simpa [Value.ownBlock] using e), h.2.2⟩) fun _ _ _ => rfl⟩, hc, hm, cs, K.mono (fun b h => ⟨h.1, hne b h.2.1, h.2.2⟩) (fun _ _ _ => rfl) h4, fun j hj => ?_⟩
    · have := congrArg (List.take (n * K.sz)) ht
      rw [List.take_take, List.take_append_of_le_length (by omega), List.take_of_length_le (l := yss.flatten) (by omega)] at this
      rw [← this, hn]
      congr 1
      rw [Nat.add_mul]
      omega
    · rw [hcell j hj, List.getElem?_append_right (by omega), hy, Nat.add_sub_cancel_left]

theorem Own.rows {w : World} {base : Nat} {P : Nat → Prop} {v : Value} {l : List α} (h : Own K w base P v l) {xs : List Value} (hx : w.ownsRow base K.T K.sz v l.length xs) : ∃ xss : List (List Value), xs = xss.flatten ∧ Each K w (fun b => P b ∧ v.ownBlock ≠ some b ∧ b < w.heap.size) xss l := by
  obtain ⟨xss, h1, h2⟩ := h
  refine ⟨xss, ?_, h2⟩
  rcases h1.2 with ⟨rfl, hn⟩ | ⟨g, cap, cur, e, -, hg, -, -, -, ht⟩
  · have a := h1.1; have b := hx.1; rw [hn] at a b; simp only [Nat.zero_mul] at a b
    rw [List.eq_nil_of_length_eq_zero a, List.eq_nil_of_length_eq_zero b]
  · rcases hx.2 with ⟨e', hn⟩ | ⟨g', cap', cur', e', -, hg', -, -, -, ht'⟩
    · rw [e] at e'; cases e'
    · rw [e] at e'
      simp only [Value.slice.injEq, Option.some.injEq, Addr.mk.injEq, and_true] at e'
      obtain ⟨rfl, -, -⟩ := e'
      rw [hg] at hg'
      simp only [Option.some.injEq, Obj.cells.injEq, and_true] at hg'
      rw [← ht, ← ht', hg']

/-- append of an element whose cells lie in a row (at place 'at' of block g) -/
theorem wpList_put {Q : Program} {w : World} {ops : Array Oper} {rest : List Oper} {o : Oper} {a : Act} {E : Exit → Act → World → Prop} (hgd : o.guard = none) (s x : Operand) (t : TypeId)
    (ho : o.op = .call { callee := .builtin .append, args := #[s, x], argTypes := #[t, t] }) (ht : Q.underlying t = some (.slice K.T)) {z : Value} {bytes : Nat} (hi : (Q.info? K.T).map (fun i => (i.zero, i.size, i.bytes)) = some (some z, K.sz, bytes)) (hz : z.cells.size = K.sz)
    (base : Nat) (P : Nat → Prop) (v : Value) (l : List α) (cs : List Value) (y : α) (g c : Nat) (T : TypeId) (fr : Nat × Nat) (hs : a.eval s = v) (hown : Own K w base P v l) (hx : a.eval x = .slice (some ⟨g, 0, none⟩) 1 c) (hg : w.heap[g]? = some (.cells cs.toArray T fr))
    (hy : K.R w (fun b => P b ∧ v.ownBlock ≠ some b) cs y) (h63 : l.length + 1 ≤ maxLen) (hlen : (l.length + 1) * bytes ≤ 140737488355328) (hbase : base ≤ w.heap.size)
    (h : ∀ v' w', Own K w' base P v' (l ++ [y]) → Below base w w' → w.grownBy w' v.ownBlock → (∀ k, v'.ownBlock = some k → v.ownBlock = some k ∨ w.heap.size ≤ k) → wpList Q ops E rest (a.put o.dst v') w') : wpList Q ops E (o :: rest) a w := by
  obtain ⟨i0, hi, hz0, hz1, hz2⟩ := info_parts hi
  obtain ⟨xss, h1, h2⟩ := id hown
  refine Push.wpList_push hgd s x t ho base K.T i0 z K.sz bytes ht hi hz0 hz1 hz2 hz K.pos v l.length xss.flatten hs h1 ⟨g, 0, none⟩ c cs hx (K.len hy) (fun j u hu => by rw [Addr.add_lit, cell_of_row w g _ _ _ _ hg, Nat.zero_add]; simpa using hu) (K.one hy) h63 hlen hbase ?_
  intro v' w' hown' hgr hv
  have hsz : w.heap.size ≤ w'.heap.size := hgr.size
  have hblk : ∀ b, b < w.heap.size → v.ownBlock ≠ some b → w'.heap[b]? = w.heap[b]? := fun b hb hne => hgr.block b hb fun e => hne e.symm
  have hne : ∀ b, b < w.heap.size → v.ownBlock ≠ some b → v'.ownBlock ≠ some b := fun b hb h e => by
    rcases hv b e with h' | h'
    · exact h h'
    · omega
  have hy' : K.R w (fun b => P b ∧ v.ownBlock ≠ some b ∧ b < w.heap.size) cs y := K.mono (fun b h => ⟨h.1.1, h.1.2, h.2⟩) (fun _ _ _ => rfl) (K.lt hy)
  refine h v' w' ⟨xss ++ [cs], by simpa using hown', (h2.snoc hy').mono (fun b h => ⟨h.1, hne b h.2.2 h.2.1, by omega⟩) fun b h _ => hblk b h.2.2 h.2.1⟩ ?_ hgr hv
  exact (Below.refl base w).grown hgr hbase fun k e => (h1.lt k e).1
end
end Go.Proofs.Ytilmfkpflecghaa.Rws
