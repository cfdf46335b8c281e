
/-
  Terms: values of atoms, numbers and compounds; a tree that is copied through pointers (what holds while it runs); rows that the call owns. Plain laws, told of no function.
-/
import Derived.Test.YtkhchmgdaolojaaDoorSame
import Derived.Laws.Tables
import Derived.Outline
import Derived.Deep.LoopGhost
import Derived.OwnWalk
import Derived.Laws.CopyOwn
namespace Go.Proofs.YtkhchmgdaolojaaDoor.Tms
open Go Go.Proofs.YtkhchmgdaolojaaDoor.Reg Go.RowKit

abbrev atomV (s : ByteArray) : Value := .agg #[.int .i64 3, .int .i64 0, .string s, .slice none 0 0]
abbrev intV (n : Int) : Value := .agg #[.int .i64 2, .int .i64 n, .string ⟨#[]⟩, .slice none 0 0]
abbrev compV (s : ByteArray) (a : Option Addr) (n cap : Nat) : Value := .agg #[.int .i64 4, .int .i64 0, .string s, .slice a n cap]
def atomT (s : ByteArray) : Tm := .mk 3 0 s []
def intT (n : Int) : Tm := .mk 2 n ⟨#[]⟩ []
def compT (s : ByteArray) (l : List Tm) : Tm := .mk 4 0 s l
theorem atom_is (w : World) (P : Nat → Prop) (s : ByteArray) : IsTm w P (atomV s) (atomT s) := IsTm.mk' (t := atomT s) (IsSl.nil w P none 0)
theorem int_is (w : World) (P : Nat → Prop) (n : Int) : IsTm w P (intV n) (intT n) := IsTm.mk' (t := intT n) (IsSl.nil w P none 0)
theorem comp_is {w : World} {P : Nat → Prop} {s : ByteArray} {a : Option Addr} {cap : Nat} {l : List Tm} (h : IsSl w P (.slice a l.length cap) l) : IsTm w P (compV s a l.length cap) (compT s l) := IsTm.mk' (t := compT s l) h
theorem one4 (k n : Int) (s : ByteArray) (a : Option Addr) (l c : Nat) : (#[Value.int .i64 k, .int .i64 n, .string s, .slice a l c].all fun v => v.oneCell') = true := by simp [Value.oneCell']
theorem size_term : (Tryd.prog.info? 28).map (·.size) = some 4 := by kernel_rfl

/-- what a call that makes a term leaves: it lies in blocks of P or in new ones -/
def MakesTm (P : Nat → Prop) (t : Tm) (w : World) (e : Ending) (w' : World) : Prop := ∃ v, e = .returned v ∧ IsTm w' (fun b => P b ∨ w.heap.size ≤ b) v t ∧ Below w.heap.size w w'

/-- two terms in a new block -/
theorem pair_sl {w : World} {P : Nat → Prop} {b cap : Nat} {T : TypeId} {t1 t2 : Tm} {a1 a2 : Option Addr} {c1 c2 : Nat} (hb : P b)
    (h : w.heap[b]? = some (.cells #[.int .i64 t1.k, .int .i64 t1.n, .string t1.s, .slice a1 t1.args.length c1, .int .i64 t2.k, .int .i64 t2.n, .string t2.s, .slice a2 t2.args.length c2] T (0, 0)))
    (h1 : IsSl w P (.slice a1 t1.args.length c1) t1.args) (h2 : IsSl w P (.slice a2 t2.args.length c2) t2.args) : IsSl w P (.slice (some ⟨b, 0, none⟩) 2 cap) [t1, t2] := by
  refine IsSl.mk' (ts := [t1, t2]) fun i hi => ⟨b, 0, rfl, hb, ?_⟩
  have hi2 : i < 2 := hi
  have : i = 0 ∨ i = 1 := by omega
  rcases this with rfl | rfl
  · exact TmAt.mk' (cell_of_row w b _ _ _ _ h) (cell_of_row w b _ _ _ _ h) (cell_of_row w b _ _ _ _ h) (cell_of_row w b _ _ _ _ h) h1
  · exact TmAt.mk' (cell_of_row w b _ _ _ _ h) (cell_of_row w b _ _ _ _ h) (cell_of_row w b _ _ _ _ h) (cell_of_row w b _ _ _ _ h) h2


theorem argsFrom_at {w : World} {P : Nat → Prop} {a : Option Addr} {ts : List Tm} (h : ArgsFrom w P a 0 ts) (i : Nat) (hi : i < ts.length) : ∃ b off, a = some ⟨b, off, none⟩ ∧ P b ∧ TmAt w P b (off + i * 4) ts[i] := by
  have := argsFrom_iff.1 h i hi
  simpa using this
theorem argsFrom_mk {w : World} {P : Nat → Prop} {a : Option Addr} {ts : List Tm} (h : ∀ i (hi : i < ts.length), ∃ b off, a = some ⟨b, off, none⟩ ∧ P b ∧ TmAt w P b (off + i * 4) ts[i]) : ArgsFrom w P a 0 ts :=
  argsFrom_iff.2 fun i hi => by simpa using h i hi

/-- what lies at a place is one term -/
theorem tmAt_det {w : World} {P P' : Nat → Prop} (N : Nat) : ∀ (t t' : Tm) (b o : Nat), t.size ≤ N → TmAt w P b o t → TmAt w P' b o t' → t = t' := by
  induction N with
  | zero => intro t t' b o hN; have := size_pos t; omega
  | succ N ih =>
    intro t t' b o hN h h'
    obtain ⟨k, n, s, ts⟩ := t
    obtain ⟨k', n', s', ts'⟩ := t'
    unfold TmAt at h h'
    obtain ⟨a, c, h0, h1, h2, h3, h4⟩ := h
    obtain ⟨a', c', h0', h1', h2', h3', h4'⟩ := h'
    rw [h0] at h0'; rw [h1] at h1'; rw [h2] at h2'; rw [h3] at h3'
    simp only [Option.some.injEq, Value.int.injEq, Value.string.injEq, Value.slice.injEq, true_and] at h0' h1' h2' h3'
    obtain ⟨rfl, hl, rfl⟩ := h3'
    subst h0' h1' h2'
    congr 1
    refine List.ext_getElem hl fun i hi hi' => ?_
    obtain ⟨b1, o1, e1, -, x1⟩ := argsFrom_at h4 i hi
    obtain ⟨b2, o2, e2, -, x2⟩ := argsFrom_at h4' i hi'
    rw [e1] at e2
    simp only [Option.some.injEq, Addr.mk.injEq, and_true] at e2
    obtain ⟨rfl, rfl⟩ := e2
    exact ih _ _ _ _ (by have := size_mem hi; simp only [Tm.size] at hN; omega) x1 x2
theorem argsFrom_det {w : World} {P P' : Nat → Prop} {a : Option Addr} {ts ts' : List Tm} (h : ArgsFrom w P a 0 ts) (h' : ArgsFrom w P' a 0 ts') (hl : ts.length = ts'.length) : ts = ts' := by
  refine List.ext_getElem hl fun i hi hi' => ?_
  obtain ⟨b1, o1, e1, -, x1⟩ := argsFrom_at h i hi
  obtain ⟨b2, o2, e2, -, x2⟩ := argsFrom_at h' i hi'
  rw [e1] at e2
  simp only [Option.some.injEq, Addr.mk.injEq, and_true] at e2
  obtain ⟨rfl, rfl⟩ := e2
  exact tmAt_det _ _ _ _ _ (Nat.le_refl _) x1 x2

/-- one cell, that leads to terms, is turned to lead to the same terms elsewhere: all readings stay -/
theorem redirect {w w' : World} {P : Nat → Prop} {g q n : Nat} {a1 a2 : Option Addr} {c1 c2 : Nat} {us : List Tm} (h1 : w.cell? ⟨g, q, none⟩ = some (.slice a1 n c1)) (h2 : w'.cell? ⟨g, q, none⟩ = some (.slice a2 n c2))
    (hs : ∀ b o, ¬ (b = g ∧ o = q) → w'.cell? ⟨b, o, none⟩ = w.cell? ⟨b, o, none⟩) (hn : us.length = n) (ho : ArgsFrom w P a1 0 us) (hu : ArgsFrom w P a2 0 us) (N : Nat) :
    ∀ (t : Tm) (b o : Nat), t.size ≤ N → TmAt w P b o t → TmAt w' P b o t := by
  induction N with
  | zero => intro t b o hN; have := size_pos t; omega
  | succ N ih =>
    intro t b o hN h
    obtain ⟨k, m, s, ts⟩ := t
    unfold TmAt at h ⊢
    obtain ⟨a, c, x0, x1, x2, x3, x4⟩ := h
    have ne0 : ¬ (b = g ∧ o = q) := fun ⟨e, e'⟩ => by subst e e'; rw [x0] at h1; cases h1
    have ne1 : ¬ (b = g ∧ o + 1 = q) := fun ⟨e, e'⟩ => by subst e e'; rw [x1] at h1; cases h1
    have ne2 : ¬ (b = g ∧ o + 2 = q) := fun ⟨e, e'⟩ => by subst e e'; rw [x2] at h1; cases h1
    have up : ∀ a', ArgsFrom w P a' 0 ts → ArgsFrom w' P a' 0 ts := fun a' ha => argsFrom_mk fun i hi => by
      obtain ⟨b', o', e, hp, x⟩ := argsFrom_at ha i hi
      exact ⟨b', o', e, hp, ih _ _ _ (by have := size_mem hi; simp only [Tm.size] at hN; omega) x⟩
    by_cases e : b = g ∧ o + 3 = q
    · obtain ⟨rfl, rfl⟩ := e
      rw [x3] at h1
      simp only [Option.some.injEq, Value.slice.injEq] at h1
      obtain ⟨rfl, hl, rfl⟩ := h1
      obtain rfl := argsFrom_det x4 ho (by omega)
      exact ⟨a2, c2, (hs _ _ ne0).trans x0, (hs _ _ ne1).trans x1, (hs _ _ ne2).trans x2, by rw [h2, hl], up _ hu⟩
    · exact ⟨a, c, (hs _ _ ne0).trans x0, (hs _ _ ne1).trans x1, (hs _ _ ne2).trans x2, (hs _ _ e).trans x3, up _ x4⟩

theorem cell_setCell_ne {w : World} {g q : Nat} {u : Value} {b o : Nat} (h : ¬ (b = g ∧ o = q)) : (w.setCell ⟨g, q, none⟩ u).cell? ⟨b, o, none⟩ = w.cell? ⟨b, o, none⟩ := by
  unfold World.cell? World.setCell
  simp only [Array.getElem?_modify]
  by_cases hb : g = b
  · subst hb
    rw [if_pos rfl]
    cases hg : w.heap[g]? with
    | none => simp
    | some x =>
      cases x <;> simp
      rw [Array.getElem?_setIfInBounds, if_neg (by intro e; exact h ⟨rfl, e.symm⟩)]
  · rw [if_neg hb]
theorem cell_setCell_eq {w : World} {g q : Nat} {u x : Value} (h : w.cell? ⟨g, q, none⟩ = some x) : (w.setCell ⟨g, q, none⟩ u).cell? ⟨g, q, none⟩ = some u := by
  unfold World.cell? at h
  unfold World.cell? World.setCell
  simp only [Array.getElem?_modify, if_true]
  cases hg : w.heap[g]? with
  | none => simp [hg] at h
  | some y =>
    cases y <;> simp [hg] at h ⊢
    obtain ⟨h1, -⟩ := Array.getElem?_eq_some_iff.1 h
    simp [h1]
/-- copy of a whole row of elements of whatever size into a new row -/
theorem run_copy_all {P : Program} (w : World) (dT sT ty elem : TypeId) (k n g dc sc : Nat) (a : Addr) (cur : Array Value) (t : TypeId) (cs : List Value) (hu : P.underlying dT = some (.slice elem)) (hs : (P.info? elem).map (·.size) = some k)
    (hg : w.heap[g]? = some (.cells cur t (0, 0))) (hn : cs.length = n * k) (hc : cur.size = n * k) (hsrc : ∀ j v, cs[j]? = some v → w.cell? (a.add j) = some v) (h1 : ∀ v ∈ cs, v.oneCell' = true) :
    (Builtin.copy_ #[dT, sT] ty #[.slice (some ⟨g, 0, none⟩) n dc, .slice (some a) n sc]).run P w = .ok (goInt n) (w.setRow g cs.toArray) := by
  have hl := run_loadCells_list (P := P) w a cs hsrc
  have hst := run_storeCells_at P g 0 t cs 0 cur w hg (by omega) h1
  have hd : cur.toList.drop cs.length = [] := by rw [List.drop_eq_nil_iff]; simp; omega
  simp only [Nat.add_zero, Nat.zero_add, List.take_zero, List.nil_append, hd, List.append_nil] at hst
  cases hq : P.info? elem with
  | none => simp [hq] at hs
  | some i =>
    have hi : i.size = k := by simpa [hq] using hs
    simp [Builtin.copy_, run_underlying hu, Builtin.lenOf, Builtin.firstCells, sizeOf, typeInfo, hq, hi, ← hn, hl, hst]
theorem wpList_copy_all {P : Program} {w : World} {ops : Array Oper} {rest : List Oper} {o : Oper} {a : Act} {Q : Exit → Act → World → Prop} (hgd : o.guard = none) (d s : Operand) (dT sT : TypeId)
    (ho : o.op = .call { callee := .builtin .copy, args := #[d, s], argTypes := #[dT, sT] }) (elem : TypeId) (k n g dc sc : Nat) (ad : Addr) (hu : P.underlying dT = some (.slice elem)) (hs : (P.info? elem).map (·.size) = some k)
    (hd : a.eval d = .slice (some ⟨g, 0, none⟩) n dc) (hx : a.eval s = .slice (some ad) n sc) (cur : Array Value) (t : TypeId) (cs : List Value) (hg : w.heap[g]? = some (.cells cur t (0, 0))) (hn : cs.length = n * k) (hc : cur.size = n * k)
    (hsrc : ∀ j v, cs[j]? = some v → w.cell? (ad.add j) = some v) (h1 : ∀ v ∈ cs, v.oneCell' = true) (h : wpList P ops Q rest (a.put o.dst (goInt n)) (w.setRow g cs.toArray)) : wpList P ops Q (o :: rest) a w := by
  refine wpList_plain hgd fun K hK => ?_
  have hrun := run_copy_all (P := P) w dT sT o.type elem k n g dc sc ad cur t cs hu hs hg hn hc hsrc h1
  unfold Oper.wp
  simp [execOp, ho, resolve, invoke, builtin, hd, hx, hrun, Result.andThen]
  exact hK _ _ h

/-- the cells of a row of terms that lie one behind the other: for each its four -/
theorem row_cells {w : World} {P : Nat → Prop} {b off : Nat} {ts : List Tm} (h : ∀ i (hi : i < ts.length), TmAt w P b (off + i * 4) ts[i]) :
    ∃ cs : List Value, cs.length = ts.length * 4 ∧ (∀ j v, cs[j]? = some v → w.cell? ⟨b, off + j, none⟩ = some v) ∧ (∀ v ∈ cs, v.oneCell' = true) := by
  induction ts generalizing off with
  | nil => exact ⟨[], by simp, by simp, by simp⟩
  | cons t ts ih =>
    obtain ⟨cs, hl, hc, h1⟩ := ih (off := off + 4) (fun i hi => by have := h (i + 1) (by simpa using hi); simpa [Nat.add_assoc, Nat.add_mul, Nat.add_comm 4] using this)
    have h0 := h 0 (by simp)
    simp only [Nat.zero_mul, Nat.add_zero, List.getElem_cons_zero] at h0
    obtain ⟨a, c, x0, x1, x2, x3, -, -⟩ := h0.read
    refine ⟨[.int .i64 t.k, .int .i64 t.n, .string t.s, .slice a t.args.length c] ++ cs, by simp [hl]; omega, ?_, ?_⟩
    · intro j v hj
      match j with
      | 0 => simp at hj; subst hj; exact x0
      | 1 => simp at hj; subst hj; exact x1
      | 2 => simp at hj; subst hj; exact x2
      | 3 => simp at hj; subst hj; exact x3
      | j + 4 =>
        have := hc j v (by simpa using hj)
        rw [show off + (j + 4) = off + 4 + j by omega]
        exact this
    · intro v hv
      simp only [List.mem_append, List.mem_cons, List.not_mem_nil, or_false] at hv
      rcases hv with (rfl | rfl | rfl | rfl) | hv
      · rfl
      · rfl
      · rfl
      · rfl
      · exact h1 v hv



mutual
theorem TmAt.lt {w : World} {P : Nat → Prop} : ∀ (t : Tm) (b o : Nat), TmAt w P b o t → TmAt w (fun b => P b ∧ b < w.heap.size) b o t
  | .mk k n s args, b, o, h => by
    unfold TmAt at h ⊢
    obtain ⟨a, cap, h0, h1, h2, h3, h4⟩ := h
    exact ⟨a, cap, h0, h1, h2, h3, ArgsFrom.lt args a 0 h4⟩
theorem ArgsFrom.lt {w : World} {P : Nat → Prop} : ∀ (ts : List Tm) (a : Option Addr) (j : Nat), ArgsFrom w P a j ts → ArgsFrom w (fun b => P b ∧ b < w.heap.size) a j ts
  | [], a, j, _ => by unfold ArgsFrom; trivial
  | t :: ts, a, j, h => by
    unfold ArgsFrom at h ⊢
    obtain ⟨⟨b, off, e, hb, ht⟩, h2⟩ := h
    exact ⟨⟨b, off, e, ⟨hb, by obtain ⟨a, c, x0, -⟩ := ht.read; exact World.block_lt_of_cell? _ _ x0⟩, TmAt.lt t b _ ht⟩, ArgsFrom.lt ts a (j + 1) h2⟩
end
theorem IsTm.lt {w : World} {P : Nat → Prop} {v : Value} {t : Tm} (h : IsTm w P v t) : IsTm w (fun b => P b ∧ b < w.heap.size) v t :=
  let ⟨a, cap, e, h⟩ := h; ⟨a, cap, e, ArgsFrom.lt _ a 0 h⟩

def SP (P S : Nat → Prop) : Nat → Prop := fun b => P b ∨ S b
abbrev ptrOf (x : Nat × Nat × Tm) : Value := .pointer (some ⟨x.1, x.2.1, none⟩)
def sumSz : List (Nat × Nat × Tm) → Nat
  | [] => 0
  | x :: l => x.2.2.size + sumSz l
theorem sumSz_app : ∀ (l m : List (Nat × Nat × Tm)), sumSz (l ++ m) = sumSz l + sumSz m
  | [], m => by simp [sumSz]
  | x :: l, m => by simp [sumSz, sumSz_app l m]; omega
theorem len_sumSz : ∀ l : List (Nat × Nat × Tm), l.length ≤ sumSz l
  | [] => by simp
  | x :: l => by have := len_sumSz l; have := size_pos x.2.2; simp [sumSz]; omega

theorem nil_or_snoc {α : Type} (l : List α) : l = [] ∨ ∃ m x, l = m ++ [x] := by
  rcases List.eq_nil_or_concat l with h | ⟨m, x, h⟩
  · exact .inl h
  · exact .inr ⟨m, x, by simpa using h⟩

structure OwnInv (t : Tm) (P S : Nat → Prop) (w : World) (B : Nat) (l : List (Nat × Nat × Tm)) (wr : World) : Prop where
  mine : ∀ b, S b → B ≤ b ∧ b ≠ B + 1 ∧ ∃ cur, wr.heap[b]? = some (.cells cur 28 (0, 0))
  theirs : ∀ b, P b → b < B
  root : S B ∧ TmAt wr (SP P S) B 0 t
  items : ∀ x ∈ l, S x.1 ∧ TmAt wr (SP P S) x.1 x.2.1 x.2.2
  below : Below B w wr
  res : wr.heap[B + 1]? = some (.cells #[.int .i64 0, .int .i64 0, .string ⟨#[]⟩, .slice none 0 0] 28 (0, 0))

/-- a world in which all rows of terms, and all that was there first, are as they were -/
theorem OwnInv.keep {t : Tm} {P S : Nat → Prop} {w : World} {B : Nat} {l : List (Nat × Nat × Tm)} {wr w' : World} (h : OwnInv t P S w B l wr) (hb : Below B wr w')
    (hk : ∀ b cur, B ≤ b → wr.heap[b]? = some (.cells cur 28 (0, 0)) → w'.heap[b]? = wr.heap[b]?) : OwnInv t P S w B l w' := by
  have hsp : ∀ b, SP P S b → b < wr.heap.size → w'.heap[b]? = wr.heap[b]? := fun b hs _ => by
    rcases hs with hs | hs
    · exact hb.block b (h.theirs b hs)
    · obtain ⟨h1, -, cur, hc⟩ := h.mine b hs
      exact hk b cur h1 hc
  refine ⟨fun b hs => ?_, h.theirs, ⟨h.root.1, h.root.2.imp (fun _ h => h) hsp _ _ _ (.inr h.root.1)⟩, fun x hx => ⟨(h.items x hx).1, (h.items x hx).2.imp (fun _ h => h) hsp _ _ _ (.inr (h.items x hx).1)⟩, h.below.trans hb, (hk _ _ (by omega) h.res).trans h.res⟩
  obtain ⟨h1, h2, cur, hc⟩ := h.mine b hs
  exact ⟨h1, h2, cur, (hk b cur h1 hc).trans hc⟩

/-- a new row of terms -/
theorem OwnInv.new {t : Tm} {P S : Nat → Prop} {w : World} {B : Nat} {l : List (Nat × Nat × Tm)} {wr w' : World} (h : OwnInv t P S w B l wr) (hb : Below wr.heap.size wr w') (hB : B + 1 < wr.heap.size) {cs : Array Value}
    (hn : w'.heap[wr.heap.size]? = some (.cells cs 28 (0, 0))) : OwnInv t P (fun b => S b ∨ b = wr.heap.size) w B l w' := by
  have k := h.keep (hb.mono (by omega)) fun b cur _ hc => hb.block b (Array.getElem?_eq_some_iff.1 hc).1
  have hsp : ∀ b, SP P S b → SP P (fun b => S b ∨ b = wr.heap.size) b := fun b hs => hs.elim .inl fun h => .inr (.inl h)
  refine ⟨fun b hs => ?_, k.theirs, ⟨.inl k.root.1, k.root.2.imp hsp (fun _ _ _ => rfl) _ _ _ (.inr k.root.1)⟩, fun x hx => ⟨.inl (k.items x hx).1, (k.items x hx).2.imp hsp (fun _ _ _ => rfl) _ _ _ (.inr (k.items x hx).1)⟩, k.below, k.res⟩
  rcases hs with hs | rfl
  · exact k.mine b hs
  · exact ⟨by omega, by omega, cs, hn⟩

/-- a term's cell is turned to the same terms elsewhere -/
theorem OwnInv.turn {t : Tm} {P S : Nat → Prop} {w : World} {B : Nat} {l : List (Nat × Nat × Tm)} {wr : World} (h : OwnInv t P S w B l wr) {g q n : Nat} {a1 a2 : Option Addr} {c1 c2 : Nat} {us : List Tm} (hS : S g) (h1 : wr.cell? ⟨g, q, none⟩ = some (.slice a1 n c1)) (hn : us.length = n)
    (ho : ArgsFrom wr (SP P S) a1 0 us) (hu : ArgsFrom wr (SP P S) a2 0 us) : OwnInv t P S w B l (wr.setCell ⟨g, q, none⟩ (.slice a2 n c2)) ∧ ∀ u b o, TmAt wr (SP P S) b o u → TmAt (wr.setCell ⟨g, q, none⟩ (.slice a2 n c2)) (SP P S) b o u := by
  have rd : ∀ u b o, TmAt wr (SP P S) b o u → TmAt (wr.setCell ⟨g, q, none⟩ (.slice a2 n c2)) (SP P S) b o u := fun u b o hu' =>
    redirect h1 (cell_setCell_eq h1) (fun b o hne => cell_setCell_ne hne) hn ho hu _ u b o (Nat.le_refl _) hu'
  obtain ⟨g1, g2, gc, hg⟩ := h.mine g hS
  refine ⟨⟨fun b hs => ?_, h.theirs, ⟨h.root.1, rd _ _ _ h.root.2⟩, fun x hx => ⟨(h.items x hx).1, rd _ _ _ (h.items x hx).2⟩, h.below.setCell g1 _, (Below.heap_setCell _ _ _ _ (show B + 1 ≠ g by omega)).trans h.res⟩, rd⟩
  obtain ⟨b1, b2, cur, hc⟩ := h.mine b hs
  refine ⟨b1, b2, ?_⟩
  by_cases e : b = g
  · subst e
    exact ⟨_, heap_setCell_same wr b q cur _ _ hc⟩
  · exact ⟨cur, (Below.heap_setCell _ _ _ _ e).trans hc⟩

theorem OwnInv.less {t : Tm} {P S : Nat → Prop} {w : World} {B : Nat} {l m : List (Nat × Nat × Tm)} {wr : World} (h : OwnInv t P S w B (l ++ m) wr) : OwnInv t P S w B l wr :=
  ⟨h.mine, h.theirs, h.root, fun x hx => h.items x (by simp [hx]), h.below, h.res⟩
theorem OwnInv.more {t : Tm} {P S : Nat → Prop} {w : World} {B : Nat} {l : List (Nat × Nat × Tm)} {wr : World} (h : OwnInv t P S w B l wr) {b o : Nat} {u : Tm} (hs : S b) (hu : TmAt wr (SP P S) b o u) : OwnInv t P S w B (l ++ [(b, o, u)]) wr :=
  ⟨h.mine, h.theirs, h.root, fun x hx => by
    simp only [List.mem_append, List.mem_singleton] at hx
    rcases hx with hx | rfl
    · exact h.items x hx
    · exact ⟨hs, hu⟩, h.below, h.res⟩

/-- the stack of what waits -/
structure Stack (B : Nat) (g cap n : Nat) (l : List (Nat × Nat × Tm)) (wr : World) : Prop where
  len : l.length = n
  owns : wr.ownsRow B 107 1 (.slice (some ⟨g, 0, none⟩) n cap) n (l.map ptrOf)
theorem Stack.blk {B g cap n : Nat} {l : List (Nat × Nat × Tm)} {wr : World} (h : Stack B g cap n l wr) : ∃ cur, wr.heap[g]? = some (.cells cur 107 (0, 0)) ∧ B ≤ g := by
  obtain ⟨-, h | ⟨g', cap', cur, e, hb, hg, -⟩⟩ := h.owns
  · cases h.1
  · simp only [Value.slice.injEq, Option.some.injEq, Addr.mk.injEq, and_true, true_and] at e
    obtain ⟨rfl, rfl⟩ := e
    exact ⟨cur, hg, hb⟩

def OwnRel (t : Tm) (P : Nat → Prop) (w : World) (B k : Nat) (v3 : Value) (wr : World) : Prop :=
  ∃ (S : Nat → Prop) (l : List (Nat × Nat × Tm)) (g cap n : Nat), v3 = .slice (some ⟨g, 0, none⟩) n cap ∧ Stack B g cap n l wr ∧ OwnInv t P S w B l wr ∧ sumSz l ≤ k ∧ k ≤ t.size

theorem own_start (t : Tm) (P : Nat → Prop) (w : World) (a : Option Addr) (cap : Nat) (h : IsTm w P (.agg #[.int .i64 t.k, .int .i64 t.n, .string t.s, .slice a t.args.length cap]) t) (hP : ∀ b, P b → b < w.heap.size) :
    OwnRel t P w w.heap.size t.size (.slice (some ⟨w.heap.size + 1 + 1, 0, none⟩) 1 1) (((w.alloc (.cells #[.int .i64 t.k, .int .i64 t.n, .string t.s, .slice a t.args.length cap] 28 (0, 0))).alloc
      (.cells #[.int .i64 0, .int .i64 0, .string ⟨#[]⟩, .slice none 0 0] 28 (0, 0))).alloc (.cells #[.pointer (some ⟨w.heap.size, 0, none⟩)] 107 (0, 0))) := by
  generalize hw1 : w.alloc (.cells #[.int .i64 t.k, .int .i64 t.n, .string t.s, .slice a t.args.length cap] 28 (0, 0)) = w1
  have s1 : w1.heap.size = w.heap.size + 1 := by rw [← hw1]; simp
  have b1 : Below w.heap.size w w1 := by rw [← hw1]; exact (Below.refl _ _).alloc (Nat.le_refl _) _
  have r1 : w1.heap[w.heap.size]? = some (.cells #[.int .i64 t.k, .int .i64 t.n, .string t.s, .slice a t.args.length cap] 28 (0, 0)) := by rw [← hw1]; exact heap_alloc_new _ _
  generalize hw2 : w1.alloc (.cells #[.int .i64 0, .int .i64 0, .string ⟨#[]⟩, .slice none 0 0] 28 (0, 0)) = w2
  have s2 : w2.heap.size = w.heap.size + 2 := by rw [← hw2]; simp [s1]
  have b2 : Below w1.heap.size w1 w2 := by rw [← hw2]; exact (Below.refl _ _).alloc (Nat.le_refl _) _
  have r2 : w2.heap[w.heap.size + 1]? = some (.cells #[.int .i64 0, .int .i64 0, .string ⟨#[]⟩, .slice none 0 0] 28 (0, 0)) := by rw [← hw2, ← s1]; exact heap_alloc_new _ _
  generalize hw3 : w2.alloc (.cells #[.pointer (some ⟨w.heap.size, 0, none⟩)] 107 (0, 0)) = w3
  have s3 : w3.heap.size = w.heap.size + 3 := by rw [← hw3]; simp [s2]
  have b3 : Below w2.heap.size w2 w3 := by rw [← hw3]; exact (Below.refl _ _).alloc (Nat.le_refl _) _
  have b03 : Below w.heap.size w w3 := b1.trans ((b2.mono (by omega)).trans (b3.mono (by omega)))
  have r13 : w3.heap[w.heap.size]? = some (.cells #[.int .i64 t.k, .int .i64 t.n, .string t.s, .slice a t.args.length cap] 28 (0, 0)) := (b3.block _ (by omega)).trans ((b2.block _ (by omega)).trans r1)
  have h3 : IsTm w3 (SP P fun b => b = w.heap.size) (.agg #[.int .i64 t.k, .int .i64 t.n, .string t.s, .slice a t.args.length cap]) t := h.imp (fun _ h => .inl h) fun b _ hlt => b03.block b hlt
  have root : TmAt w3 (SP P fun b => b = w.heap.size) w.heap.size 0 t := TmAt.mk' (cell_of_row w3 _ _ _ _ _ r13) (cell_of_row w3 _ _ _ _ _ r13) (cell_of_row w3 _ _ _ _ _ r13) (cell_of_row w3 _ _ _ _ _ r13) h3.args
  refine ⟨fun b => b = w.heap.size, [(w.heap.size, 0, t)], w.heap.size + 1 + 1, 1, 1, rfl, ⟨rfl, ?_⟩, ⟨?_, hP, ⟨rfl, root⟩, ?_, b03, (b3.block _ (by omega)).trans r2⟩, by simp [sumSz], Nat.le_refl _⟩
  · rw [← hw3, show w.heap.size + 1 + 1 = w2.heap.size by omega]
    exact World.ownsRow_lit w2 _ 1 (by omega) (by decide) rfl
  · rintro b rfl
    exact ⟨by omega, by omega, _, r13⟩
  · intro x hx
    simp only [List.mem_singleton] at hx
    subst hx
    exact ⟨rfl, root⟩

theorem owns_pop {w : World} {B g cap n : Nat} {T : TypeId} {xs : List Value} {x : Value} (h : w.ownsRow B T 1 (.slice (some ⟨g, 0, none⟩) (n + 1) cap) (n + 1) (xs ++ [x])) :
    w.ownsRow B T 1 (.slice (some ⟨g, 0, none⟩) n cap) n xs ∧ w.cell? ⟨g, n, none⟩ = some x ∧ n + 1 ≤ cap ∧ xs.length = n := by
  have hl : xs.length = n := by have := h.1; simp at this; omega
  have hcell := h.cellAt n (by omega)
  rw [List.getElem?_append_right (by omega), hl, Nat.sub_self] at hcell
  obtain ⟨-, h | ⟨g', cap', cur, e, hb, hg, hc, hm, hs, ht⟩⟩ := h
  · cases h.1
  · simp only [Value.slice.injEq, Option.some.injEq, Addr.mk.injEq, and_true, true_and] at e
    obtain ⟨rfl, rfl⟩ := e
    refine ⟨⟨by omega, .inr ⟨_, _, cur, rfl, hb, hg, by omega, hm, hs, ?_⟩⟩, hcell, hc, hl⟩
    have := congrArg (List.take n) ht
    rw [List.take_take, List.take_append_of_le_length (by omega), List.take_of_length_le (l := xs) (by omega)] at this
    rw [← this]
    congr 1
    omega

theorem Stack.other {B g cap n : Nat} {l : List (Nat × Nat × Tm)} {wr : World} (h : Stack B g cap n l wr) {b q : Nat} (hb : ∃ cur, wr.heap[b]? = some (.cells cur 28 (0, 0))) (u : Value) : Stack B g cap n l (wr.setCell ⟨b, q, none⟩ u) := by
  refine ⟨h.len, h.owns.1, ?_⟩
  rcases h.owns.2 with h2 | ⟨g', cap', cur, hv, hg, hh, r⟩
  · exact .inl h2
  · refine .inr ⟨g', cap', cur, hv, hg, (Below.heap_setCell _ _ _ _ (show g' ≠ b from fun e => ?_)).trans hh, r⟩
    obtain ⟨c, hc⟩ := hb
    rw [← e, hh] at hc
    simp at hc

theorem Stack.keep {B g cap n : Nat} {l : List (Nat × Nat × Tm)} {wr w' : World} (h : Stack B g cap n l wr) (hb : Below wr.heap.size wr w') : Stack B g cap n l w' := by
  refine ⟨h.len, h.owns.1, ?_⟩
  rcases h.owns.2 with h2 | ⟨g', cap', cur, hv, hg, hh, r⟩
  · exact .inl h2
  · exact .inr ⟨g', cap', cur, hv, hg, (hb.block _ (Array.getElem?_eq_some_iff.1 hh).1).trans hh, r⟩

/-- a row of terms copied into a new row -/
theorem copied {w w' : World} {P P' : Nat → Prop} {b off g : Nat} {ts : List Tm} {cs : List Value} {T : TypeId} {fr : Nat × Nat} (h : ∀ i (hi : i < ts.length), TmAt w P b (off + i * 4) ts[i]) (hl : cs.length = ts.length * 4)
    (hc : ∀ j v, cs[j]? = some v → w.cell? ⟨b, off + j, none⟩ = some v) (hg : w'.heap[g]? = some (.cells cs.toArray T fr)) (hP : ∀ b, P b → P' b) (hw : ∀ b, P b → b < w.heap.size → w'.heap[b]? = w.heap[b]?) :
    ∀ i (hi : i < ts.length), TmAt w' P' g (i * 4) ts[i] := by
  intro i hi
  obtain ⟨a, c, x0, x1, x2, x3, it, -⟩ := (h i hi).read
  have cell : ∀ q v, q < 4 → w.cell? ⟨b, off + i * 4 + q, none⟩ = some v → w'.cell? ⟨g, i * 4 + q, none⟩ = some v := fun q v hq hv => by
    have hlt : i * 4 + q < cs.length := by omega
    have h1 := hc (i * 4 + q) cs[i * 4 + q] (List.getElem?_eq_getElem hlt)
    rw [← Nat.add_assoc, hv] at h1
    rw [cell_of_row w' g _ _ _ _ hg]
    simp only [List.getElem?_toArray, List.getElem?_eq_getElem hlt]
    exact h1.symm
  exact TmAt.mk' (cell 0 _ (by omega) x0) (cell 1 _ (by omega) x1) (cell 2 _ (by omega) x2) (cell 3 _ (by omega) x3) (it.imp hP hw).args

theorem info_term : (Tryd.prog.info? 28).map (fun i => (i.zero, i.size, i.bytes)) = some (some (.agg #[.int .i64 0, .int .i64 0, .string ⟨#[]⟩, .slice none 0 0]), 4, 56) := by kernel_rfl
theorem info_ptr : (Tryd.prog.info? 107).map (fun i => (i.zero, i.size, i.bytes)) = some (some (.pointer none), 1, 8) := by kernel_rfl

theorem own_row {w : World} {B g n cap k : Nat} {T : TypeId} {xs : List Value} (h : w.ownsRow B T k (.slice (some ⟨g, 0, none⟩) n cap) n xs) : ∃ cur, w.heap[g]? = some (.cells cur T (0, 0)) ∧ cur.size = cap * k := by
  obtain ⟨-, h | ⟨g', cap', cur, e, hb, hg, hc, hm, hs, ht⟩⟩ := h
  · cases h.1
  · simp only [Value.slice.injEq, Option.some.injEq, Addr.mk.injEq, and_true, true_and] at e
    obtain ⟨rfl, rfl⟩ := e
    exact ⟨cur, hg, hs⟩

def InnRel (t : Tm) (P : Nat → Prop) (w : World) (B : Nat) (S : Nat → Prop) (l0 : List (Nat × Nat × Tm)) (xa : List Tm) (g2 : Nat) (v3 c : Value) (wr : World) : Prop :=
  ∃ (l : List (Nat × Nat × Tm)) (g cap n j : Nat), c = .int .i64 j ∧ j ≤ xa.length ∧ v3 = .slice (some ⟨g, 0, none⟩) n cap ∧ Stack B g cap n l wr ∧ OwnInv t P S w B l wr ∧ (∀ i (hi : i < xa.length), TmAt wr (SP P S) g2 (i * 4) xa[i]) ∧ S g2 ∧ sumSz l = sumSz l0 + sizeL (xa.take j)

theorem one_news (w : World) (x : Value) (T : TypeId) : ∀ j u, [x][j]? = some u → (w.alloc (.cells #[x] T (0, 0))).cell? (Addr.add ⟨w.heap.size, 0, none⟩ j) = some u := by
  intro j u h
  rw [Addr.add_lit, cell_of_row _ _ _ _ _ _ (heap_alloc_new w _)]
  match j with
  | 0 => simpa using h
  | j + 1 => simp at h

theorem own_push {t : Tm} {P S : Nat → Prop} {w : World} {B : Nat} {l : List (Nat × Nat × Tm)} {wr w' : World} {g cap n b o : Nat} {u : Tm} {v' : Value} {x : Value} (hs : Stack B g cap n l wr) (h : OwnInv t P S w B l wr) (hb : S b) (hu : TmAt wr (SP P S) b o u)
    (hown : w'.ownsRow B 107 1 v' (n + 1) (l.map ptrOf ++ [ptrOf (b, o, u)])) (hg : (wr.alloc (.cells #[x] 107 (0, 0))).grownBy w' (some g)) :
    ∃ g' cap', v' = .slice (some ⟨g', 0, none⟩) (n + 1) cap' ∧ Stack B g' cap' (n + 1) (l ++ [(b, o, u)]) w' ∧ OwnInv t P S w B (l ++ [(b, o, u)]) w' ∧ ∀ q j y, S q → TmAt wr (SP P S) q j y → TmAt w' (SP P S) q j y := by
  obtain ⟨cg, hcg, hBg⟩ := hs.blk
  have hsz : B + 1 < wr.heap.size := (Array.getElem?_eq_some_iff.1 h.res).1
  have hbel : Below B wr w' := ((Below.refl B wr).alloc (by omega) _).grown hg (by simp; omega) (by intro k e; cases e; exact hBg)
  have hk : ∀ b cur, B ≤ b → wr.heap[b]? = some (.cells cur 28 (0, 0)) → w'.heap[b]? = wr.heap[b]? := fun b cur _ hc => by
    have hlt := (Array.getElem?_eq_some_iff.1 hc).1
    refine (hg.block b (by simp; omega) fun e => ?_).trans (heap_alloc_old _ _ hlt)
    cases e
    rw [hcg] at hc
    simp at hc
  have k := h.keep hbel hk
  have rd : ∀ q j y, S q → TmAt wr (SP P S) q j y → TmAt w' (SP P S) q j y := fun q j y hq hy => hy.imp (fun _ h => h) (fun b hs _ => by
    rcases hs with hs | hs
    · exact hbel.block b (h.theirs b hs)
    · obtain ⟨h1, -, cur, hc⟩ := h.mine b hs
      exact hk b cur h1 hc) _ _ _ (.inr hq)
  have ho := hown
  obtain ⟨-, h0 | ⟨g', cap', cur, e, -⟩⟩ := hown
  · exact absurd h0.2 (by omega)
  · subst e
    exact ⟨g', cap', rfl, ⟨by simp [hs.len], by simpa using ho⟩, k.more hb (rd _ _ _ hb hu), rd⟩

theorem sizeL_take : ∀ (l : List Tm) (j : Nat), sizeL (l.take j) ≤ sizeL l
  | [], j => by simp [sizeL]
  | t :: l, 0 => by simp [sizeL]
  | t :: l, j + 1 => by have := sizeL_take l j; simp only [List.take_succ_cons, sizeL]; omega
theorem sizeL_succ : ∀ (l : List Tm) (j : Nat) (h : j < l.length), sizeL (l.take (j + 1)) = sizeL (l.take j) + l[j].size
  | t :: l, 0, _ => by simp [sizeL]
  | t :: l, j + 1, h => by have := sizeL_succ l j (by simpa using h); simp only [List.take_succ_cons, sizeL, List.getElem_cons_succ]; omega

theorem own_end {t : Tm} {P S : Nat → Prop} {w wr : World} {l : List (Nat × Nat × Tm)} {v : Value} {cs : Array Value} (inv : OwnInv t (fun b => P b ∧ b < w.heap.size) S w w.heap.size l wr) (it : IsTm wr (SP (fun b => P b ∧ b < w.heap.size) S) v t) :
    MakesTm P t w (.returned v) (wr.setRow (w.heap.size + 1) cs) := by
  refine ⟨v, rfl, it.imp (fun b h => ?_) fun b h _ => setRow_other _ _ _ _ ?_, inv.below.trans ⟨rfl, rfl, rfl, by simp, fun k hk => setRow_other _ _ _ _ (by omega)⟩⟩
  · rcases h with h | h
    · exact .inl h.1
    · exact .inr (inv.mine b h).1
  · rcases h with h | h
    · have := h.2; omega
    · exact (inv.mine b h).2.1

end Go.Proofs.YtkhchmgdaolojaaDoor.Tms
