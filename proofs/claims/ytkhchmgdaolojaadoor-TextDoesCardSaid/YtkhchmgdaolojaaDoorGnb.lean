
/-
  Terms: what a call that makes terms leaves; the result variable; bundles of cells. Plain laws, told of no function.
-/
import Derived.Test.YtkhchmgdaolojaaDoorBas
import Derived.Test.YtkhchmgdaolojaaDoorTs
namespace Go.Proofs.YtkhchmgdaolojaaDoor.Tms
open Go Go.Proofs.YtkhchmgdaolojaaDoor.Maps Go.Proofs.YtkhchmgdaolojaaDoor.Reg Go.RowKit

abbrev wordV (n f : ByteArray) (a b : Bool) : Value := .agg #[.string n, .string f, .bool a, .bool b]
def wordEntries : Array MapEntry := #[⟨.int .i64 12, wordV (⟨#[105, 110, 115, 116, 97, 110, 116, 105, 97, 116, 105, 111, 110, 95, 101, 114, 114, 111, 114]⟩ : ByteArray) ⟨#[]⟩ false false, 0⟩, ⟨.int .i64 13, wordV (⟨#[116, 121, 112, 101, 95, 101, 114, 114, 111, 114]⟩ : ByteArray) ⟨#[]⟩ true true, 1⟩, ⟨.int .i64 14, wordV (⟨#[100, 111, 109, 97, 105, 110, 95, 101, 114, 114, 111, 114]⟩ : ByteArray) ⟨#[]⟩ true true, 2⟩,
  ⟨.int .i64 8, wordV (⟨#[101, 120, 105, 115, 116, 101, 110, 99, 101, 95, 101, 114, 114, 111, 114]⟩ : ByteArray) ⟨#[]⟩ true true, 3⟩, ⟨.int .i64 11, wordV (⟨#[101, 118, 97, 108, 117, 97, 116, 105, 111, 110, 95, 101, 114, 114, 111, 114]⟩ : ByteArray) (⟨#[105, 110, 116, 95, 111, 118, 101, 114, 102, 108, 111, 119]⟩ : ByteArray) false false, 4⟩, ⟨.int .i64 10, wordV (⟨#[101, 118, 97, 108, 117, 97, 116, 105, 111, 110, 95, 101, 114, 114, 111, 114]⟩ : ByteArray) (⟨#[122, 101, 114, 111, 95, 100, 105, 118, 105, 115, 111, 114]⟩ : ByteArray) false false, 5⟩,
  ⟨.int .i64 3, wordV (⟨#[114, 101, 112, 114, 101, 115, 101, 110, 116, 97, 116, 105, 111, 110, 95, 101, 114, 114, 111, 114]⟩ : ByteArray) ⟨#[]⟩ true false, 6⟩]

/-- what a call that made a term through a result variable leaves -/
theorem makes_at {t : Tm} {P : Nat → Prop} {w wr : World} {g base : Nat} {v : Value} {cs : Array Value} (it : IsTm wr (fun b => (P b ∧ b < w.heap.size) ∨ base ≤ b) v t) (hb : Below w.heap.size w wr) (h1 : w.heap.size ≤ g) (h2 : g < base) :
    MakesTm P t w (.returned v) (wr.setRow g cs) := by
  refine ⟨v, rfl, it.imp (fun b h => ?_) fun b h _ => setRow_other _ _ _ _ ?_, hb.trans ⟨rfl, rfl, rfl, by simp, fun k hk => setRow_other _ _ _ _ (by omega)⟩⟩
  · rcases h with h | h
    · exact .inl h.1
    · exact .inr (by omega)
  · rcases h with h | h
    · have := h.2; omega
    · omega

structure FmCtx (w : World) (n f : ByteArray) (wh wi : Bool) (P : Nat → Prop) (t : Tm) (a : Option Addr) (cap b7 base : Nat) (u : World) : Prop where
  word : u.cell? ⟨b7, 0, none⟩ = some (.string n) ∧ u.cell? ⟨b7, 1, none⟩ = some (.string f) ∧ u.cell? ⟨b7, 2, none⟩ = some (.bool wh) ∧ u.cell? ⟨b7, 3, none⟩ = some (.bool wi)
  box : u.cell? ⟨w.heap.size, 0, none⟩ = some (.int .i64 t.k) ∧ u.cell? ⟨w.heap.size, 1, none⟩ = some (.int .i64 t.n) ∧ u.cell? ⟨w.heap.size, 2, none⟩ = some (.string t.s) ∧ u.cell? ⟨w.heap.size, 3, none⟩ = some (.slice a t.args.length cap)
  res : u.heap[w.heap.size + 1]? = some (.cells #[.int .i64 0, .int .i64 0, .string ⟨#[]⟩, .slice none 0 0] 28 (0, 0))
  it : IsTm u (fun b => P b ∧ b < w.heap.size) (.agg #[.int .i64 t.k, .int .i64 t.n, .string t.s, .slice a t.args.length cap]) t
  bel : Below w.heap.size w u
  low : w.heap.size + 1 < b7 ∧ b7 < base ∧ base ≤ u.heap.size

theorem FmCtx.on {w : World} {n f : ByteArray} {wh wi : Bool} {P : Nat → Prop} {t : Tm} {a : Option Addr} {cap b7 base : Nat} {u u' : World} (h : FmCtx w n f wh wi P t a cap b7 base u) (hb : Below base u u') : FmCtx w n f wh wi P t a cap b7 base u' := by
  have hl := h.low
  have c7 : ∀ o, u'.cell? ⟨b7, o, none⟩ = u.cell? ⟨b7, o, none⟩ := fun o => hb.cell (p := ⟨b7, o, none⟩) (by show b7 < base; omega)
  have cB : ∀ o, u'.cell? ⟨w.heap.size, o, none⟩ = u.cell? ⟨w.heap.size, o, none⟩ := fun o => hb.cell (p := ⟨w.heap.size, o, none⟩) (by show w.heap.size < base; omega)
  exact ⟨⟨(c7 _).trans h.word.1, (c7 _).trans h.word.2.1, (c7 _).trans h.word.2.2.1, (c7 _).trans h.word.2.2.2⟩, ⟨(cB _).trans h.box.1, (cB _).trans h.box.2.1, (cB _).trans h.box.2.2.1, (cB _).trans h.box.2.2.2⟩, (hb.block _ (by omega)).trans h.res,
    h.it.imp (fun _ h => h) fun b h _ => hb.block b (by have := h.2; omega), h.bel.trans (hb.mono (by omega)), ⟨hl.1, hl.2.1, Nat.le_trans hl.2.2 hb.size⟩⟩

/-- what is wrong, as the document tells it -/
def formalE (e : Int) (what : ByteArray) (t : Tm) : Tm :=
  if e = 12 then atomT (⟨#[105, 110, 115, 116, 97, 110, 116, 105, 97, 116, 105, 111, 110, 95, 101, 114, 114, 111, 114]⟩ : ByteArray) else if e = 13 then compT (⟨#[116, 121, 112, 101, 95, 101, 114, 114, 111, 114]⟩ : ByteArray) [atomT what, t] else if e = 14 then compT (⟨#[100, 111, 109, 97, 105, 110, 95, 101, 114, 114, 111, 114]⟩ : ByteArray) [atomT what, t] else if e = 8 then compT (⟨#[101, 120, 105, 115, 116, 101, 110, 99, 101, 95, 101, 114, 114, 111, 114]⟩ : ByteArray) [atomT what, t]
  else if e = 11 then compT (⟨#[101, 118, 97, 108, 117, 97, 116, 105, 111, 110, 95, 101, 114, 114, 111, 114]⟩ : ByteArray) [atomT (⟨#[105, 110, 116, 95, 111, 118, 101, 114, 102, 108, 111, 119]⟩ : ByteArray)] else if e = 10 then compT (⟨#[101, 118, 97, 108, 117, 97, 116, 105, 111, 110, 95, 101, 114, 114, 111, 114]⟩ : ByteArray) [atomT (⟨#[122, 101, 114, 111, 95, 100, 105, 118, 105, 115, 111, 114]⟩ : ByteArray)] else if e = 3 then compT (⟨#[114, 101, 112, 114, 101, 115, 101, 110, 116, 97, 116, 105, 111, 110, 95, 101, 114, 114, 111, 114]⟩ : ByteArray) [atomT what] else atomT (⟨#[115, 121, 115, 116, 101, 109, 95, 101, 114, 114, 111, 114]⟩ : ByteArray)


theorem sl_of_cells {w : World} {P : Nat → Prop} {g n cap : Nat} {cs : List Value} {T : TypeId} {fr : Nat × Nat} {ts : List Tm} (h : w.heap[g]? = some (.cells cs.toArray T fr)) (hc : CellsOf w P cs ts) (hn : ts.length = n) (hP : P g) : IsSl w P (.slice (some ⟨g, 0, none⟩) n cap) ts := by
  subst hn
  refine IsSl.mk' fun i hi => ⟨g, 0, rfl, hP, hc.at_ 0 (fun j v hj => ?_) i hi⟩
  rw [cell_of_row w g _ _ _ _ h, Nat.zero_add]
  simpa using hj
theorem CellsOf.cons {w : World} {P : Nat → Prop} {c0 c1 c2 c3 : Value} {t : Tm} {cs : List Value} {ts : List Tm} (ht : IsTm w P (.agg #[c0, c1, c2, c3]) t) (h : CellsOf w P cs ts) : CellsOf w P (c0 :: c1 :: c2 :: c3 :: cs) (t :: ts) := by
  obtain ⟨a, c, e, h'⟩ := ht
  simp only [Value.agg.injEq, Array.mk.injEq, List.cons.injEq, and_true] at e
  obtain ⟨rfl, rfl, rfl, rfl⟩ := e
  exact ⟨rfl, rfl, rfl, ⟨a, c, rfl, h'⟩, h⟩

/-- the result variable, still zero, in block r; what was there first is as it was -/
structure Rz (w : World) (r base : Nat) (u : World) : Prop where
  res : u.heap[r]? = some (.cells #[.int .i64 0, .int .i64 0, .string ⟨#[]⟩, .slice none 0 0] 28 (0, 0))
  bel : Below w.heap.size w u
  low : w.heap.size ≤ r ∧ r < base ∧ base ≤ u.heap.size
theorem Rz.on {w : World} {r base : Nat} {u u' : World} (h : Rz w r base u) (hb : Below base u u') : Rz w r base u' :=
  ⟨(hb.block _ h.low.2.1).trans h.res, h.bel.trans (hb.mono (by have := h.low; omega)), h.low.1, h.low.2.1, Nat.le_trans h.low.2.2 hb.size⟩
theorem Rz.next {w : World} {r base : Nat} {u u' : World} (h : Rz w r base u) (hb : Below u.heap.size u u') : Rz w r base u' := h.on (hb.mono h.low.2.2)
theorem Rz.first (w : World) : Rz w w.heap.size (w.heap.size + 1) (w.alloc (.cells #[.int .i64 0, .int .i64 0, .string ⟨#[]⟩, .slice none 0 0] 28 (0, 0))) :=
  ⟨heap_alloc_new _ _, (Below.refl _ _).alloc (Nat.le_refl _) _, Nat.le_refl _, Nat.lt_succ_self _, by simp⟩
theorem Rz.second (w : World) (o : Obj) : Rz w (w.heap.size + 1) (w.heap.size + 2) ((w.alloc o).alloc (.cells #[.int .i64 0, .int .i64 0, .string ⟨#[]⟩, .slice none 0 0] 28 (0, 0))) := by
  obtain ⟨-, t1, tsz, tbl⟩ := two w o (.cells #[.int .i64 0, .int .i64 0, .string ⟨#[]⟩, .slice none 0 0] 28 (0, 0))
  exact ⟨t1, tbl, by omega, by omega, by omega⟩
/-- a fresh block after it -/
theorem Rz.row {w : World} {r base : Nat} {u : World} (h : Rz w r base u) (o : Obj) : Rz w r base (u.alloc o) ∧ (u.alloc o).heap[u.heap.size]? = some o ∧ base ≤ u.heap.size :=
  ⟨h.next ((Below.refl _ _).alloc (Nat.le_refl _) _), heap_alloc_new _ _, h.low.2.2⟩

abbrev Low (P : Nat → Prop) (w : World) (base : Nat) : Nat → Prop := fun b => (P b ∧ b < w.heap.size) ∨ base ≤ b

/-- what lies at place i of a slice of terms, its cells -/
theorem IsSl.cells {w : World} {P : Nat → Prop} {a : Option Addr} {n cap : Nat} {l : List Tm} (h : IsSl w P (.slice a n cap) l) (hn : 0 < l.length) : ∃ b off, a = some ⟨b, off, none⟩ ∧ b < w.heap.size ∧ P b ∧ ∀ i (hi : i < l.length), TmAt w P b (off + i * 4) l[i] := by
  obtain ⟨a', c', e, h'⟩ := id h
  obtain ⟨rfl, -, -⟩ := Value.slice.inj e
  obtain ⟨b, off, rfl, hp, ht⟩ := argsFrom_at h' 0 hn
  obtain ⟨_, _, x0, -⟩ := ht.read
  refine ⟨b, off, rfl, World.block_lt_of_cell? _ _ x0, hp, fun i hi => ?_⟩
  obtain ⟨b', off', e', -, ht'⟩ := argsFrom_at h' i hi
  simp only [Option.some.injEq, Addr.mk.injEq, and_true] at e'
  obtain ⟨rfl, rfl⟩ := e'
  exact ht'

/-- these places hold these values -/
def Cells : List (Nat × Nat × Value) → World → Prop
  | [], _ => True
  | x :: l, u => (u.cell? ⟨x.1, x.2.1, none⟩ = some x.2.2) ∧ Cells l u
theorem Cells.below {w w' : World} (hb : Below w.heap.size w w') : ∀ {l : List (Nat × Nat × Value)}, Cells l w → Cells l w'
  | [], _ => trivial
  | x :: _, h => ⟨(hb.cell (p := ⟨x.1, x.2.1, none⟩) (World.block_lt_of_cell? _ _ h.1)).trans h.1, Cells.below hb h.2⟩

def dotS : ByteArray := ⟨#[46]⟩
def listT : List Tm → Tm → Tm
  | [], e => e
  | x :: l, e => compT dotS [x, listT l e]
theorem listT_drop {ts : List Tm} {e : Tm} {k : Nat} (h : k < ts.length) : listT (ts.drop k) e = compT dotS [ts[k], listT (ts.drop (k + 1)) e] := by
  rw [List.drop_eq_getElem_cons h]
  rfl

def idxOf : Value → Nat
  | .int _ n => (n + 1).toNat
  | _ => 0

end Go.Proofs.YtkhchmgdaolojaaDoor.Tms
