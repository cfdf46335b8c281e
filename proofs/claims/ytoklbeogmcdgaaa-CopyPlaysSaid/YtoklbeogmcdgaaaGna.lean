
/-
  Terms: values of atoms, numbers and compounds; a tree that is copied through pointers (what holds while it runs); rows that the call owns. Plain laws, told of no function.
-/
import Derived.Test.YtoklbeogmcdgaaaSame
import Derived.Laws.Tables
import Derived.Outline
import Derived.Deep.LoopGhost
import Derived.OwnWalk
import Derived.Laws.CopyOwn
namespace Go.Proofs.Ytoklbeogmcdgaaa.Tms
open Go Go.Proofs.Ytoklbeogmcdgaaa.Reg Go.RowKit

abbrev atomV (s : ByteArray) : Value := .agg #[.int .i64 3, .int .i64 0, .string s, .slice none 0 0]
def atomT (s : ByteArray) : Tm := .mk 3 0 s []
theorem atom_is (w : World) (P : Nat → Prop) (s : ByteArray) : IsTm w P (atomV s) (atomT s) := IsTm.mk' (t := atomT s) (IsSl.nil w P none 0)
theorem one4 (k n : Int) (s : ByteArray) (a : Option Addr) (l c : Nat) : (#[Value.int .i64 k, .int .i64 n, .string s, .slice a l c].all fun v => v.oneCell') = true := by simp [Value.oneCell']
theorem size_term : (Try.prog.info? 33).map (·.size) = some 4 := by kernel_rfl

/-- what a call that makes a term leaves: it lies in blocks of P or in new ones -/
def MakesTm (P : Nat → Prop) (t : Tm) (w : World) (e : Ending) (w' : World) : Prop := ∃ v, e = .returned v ∧ IsTm w' (fun b => P b ∨ w.heap.size ≤ b) v t ∧ Below w.heap.size w w'

/-- two terms in a new block -/
theorem pair_sl {w : World} {P : Nat → Prop} {b cap : Nat} {T : TypeId} {t1 t2 : Tm} {a1 a2 : Option Addr} {c1 c2 : Nat} (hb : P b)
    (h : w.heap[b]? = some (.cells #[.int .i64 t1.k, .int .i64 t1.n, .string t1.s, .slice a1 t1.args.length c1, .int .i64 t2.k, .int .i64 t2.n, .string t2.s, .slice a2 t2.args.length c2] T (0, 0)))
    (h1 : IsSl w P (.slice a1 t1.args.length c1) t1.args) (h2 : IsSl w P (.slice a2 t2.args.length c2) t2.args) : IsSl w P (.slice (some ⟨b, 0, none⟩) 2 cap) [t1, t2] := by
  refine IsSl.mk' (ts := [t1, t2]) fun i hi => ⟨b, 0, rfl, hb, ?_⟩
  have hi2 : i < 2 := hi
  have : i = 0 ∨ i = 1 := by omega
  rcases this with rfl | rfl
  · exact TmAt.mk' (cell_of_row w b _ _ _ _ h) (cell_of_row w b _ _ _ _ h) (cell_of_row w b _ _ _ _ h) (cell_of_row w b _ _ _ _ h) h1
  · exact TmAt.mk' (cell_of_row w b _ _ _ _ h) (cell_of_row w b _ _ _ _ h) (cell_of_row w b _ _ _ _ h) (cell_of_row w b _ _ _ _ h) h2


theorem argsFrom_at {w : World} {P : Nat → Prop} {a : Option Addr} {ts : List Tm} (h : ArgsFrom w P a 0 ts) (i : Nat) (hi : i < ts.length) : ∃ b off, a = some ⟨b, off, none⟩ ∧ P b ∧ TmAt w P b (off + i * 4) ts[i] := by
  have := argsFrom_iff.1 h i hi
  simpa using this
theorem argsFrom_mk {w : World} {P : Nat → Prop} {a : Option Addr} {ts : List Tm} (h : ∀ i (hi : i < ts.length), ∃ b off, a = some ⟨b, off, none⟩ ∧ P b ∧ TmAt w P b (off + i * 4) ts[i]) : ArgsFrom w P a 0 ts :=
  argsFrom_iff.2 fun i hi => by simpa using h i hi

theorem cell_setCell_ne {w : World} {g q : Nat} {u : Value} {b o : Nat} (h : ¬ (b = g ∧ o = q)) : (w.setCell ⟨g, q, none⟩ u).cell? ⟨b, o, none⟩ = w.cell? ⟨b, o, none⟩ := by
  unfold World.cell? World.setCell
  simp only [Array.getElem?_modify]
  by_cases hb : g = b
  · subst hb
    rw [if_pos rfl]
    cases hg : w.heap[g]? with
    | none => simp
    | some x =>
      cases x <;> simp
      rw [Array.getElem?_setIfInBounds, if_neg (by intro e; exact h ⟨rfl, e.symm⟩)]
  · rw [if_neg hb]
theorem cell_setCell_eq {w : World} {g q : Nat} {u x : Value} (h : w.cell? ⟨g, q, none⟩ = some x) : (w.setCell ⟨g, q, none⟩ u).cell? ⟨g, q, none⟩ = some u := by
  unfold World.cell? at h
  unfold World.cell? World.setCell
  simp only [Array.getElem?_modify, if_true]
  cases hg : w.heap[g]? with
  | none => simp [hg] at h
  | some y =>
    cases y <;> simp [hg] at h ⊢
    obtain ⟨h1, -⟩ := Array.getElem?_eq_some_iff.1 h
    simp [h1]
/-- copy of a whole row of elements of whatever size into a new row -/
theorem run_copy_all {P : Program} (w : World) (dT sT ty elem : TypeId) (k n g dc sc : Nat) (a : Addr) (cur : Array Value) (t : TypeId) (cs : List Value) (hu : P.underlying dT = some (.slice elem)) (hs : (P.info? elem).map (·.size) = some k)
    (hg : w.heap[g]? = some (.cells cur t (0, 0))) (hn : cs.length = n * k) (hc : cur.size = n * k) (hsrc : ∀ j v, cs[j]? = some v → w.cell? (a.add j) = some v) (h1 : ∀ v ∈ cs, v.oneCell' = true) :
    (Builtin.copy_ #[dT, sT] ty #[.slice (some ⟨g, 0, none⟩) n dc, .slice (some a) n sc]).run P w = .ok (goInt n) (w.setRow g cs.toArray) := by
  have hl := run_loadCells_list (P := P) w a cs hsrc
  have hst := run_storeCells_at P g 0 t cs 0 cur w hg (by omega) h1
  have hd : cur.toList.drop cs.length = [] := by rw [List.drop_eq_nil_iff]; simp; omega
  simp only [Nat.add_zero, Nat.zero_add, List.take_zero, List.nil_append, hd, List.append_nil] at hst
  cases hq : P.info? elem with
  | none => simp [hq] at hs
  | some i =>
    have hi : i.size = k := by simpa [hq] using hs
    simp [Builtin.copy_, run_underlying hu, Builtin.lenOf, Builtin.firstCells, sizeOf, typeInfo, hq, hi, ← hn, hl, hst]
theorem wpList_copy_all {P : Program} {w : World} {ops : Array Oper} {rest : List Oper} {o : Oper} {a : Act} {Q : Exit → Act → World → Prop} (hgd : o.guard = none) (d s : Operand) (dT sT : TypeId)
    (ho : o.op = .call { callee := .builtin .copy, args := #[d, s], argTypes := #[dT, sT] }) (elem : TypeId) (k n g dc sc : Nat) (ad : Addr) (hu : P.underlying dT = some (.slice elem)) (hs : (P.info? elem).map (·.size) = some k)
    (hd : a.eval d = .slice (some ⟨g, 0, none⟩) n dc) (hx : a.eval s = .slice (some ad) n sc) (cur : Array Value) (t : TypeId) (cs : List Value) (hg : w.heap[g]? = some (.cells cur t (0, 0))) (hn : cs.length = n * k) (hc : cur.size = n * k)
    (hsrc : ∀ j v, cs[j]? = some v → w.cell? (ad.add j) = some v) (h1 : ∀ v ∈ cs, v.oneCell' = true) (h : wpList P ops Q rest (a.put o.dst (goInt n)) (w.setRow g cs.toArray)) : wpList P ops Q (o :: rest) a w := by
  refine wpList_plain hgd fun K hK => ?_
  have hrun := run_copy_all (P := P) w dT sT o.type elem k n g dc sc ad cur t cs hu hs hg hn hc hsrc h1
  unfold Oper.wp
  simp [execOp, ho, resolve, invoke, builtin, hd, hx, hrun, Result.andThen]
  exact hK _ _ h

/-- the cells of a row of terms that lie one behind the other: for each its four -/
theorem row_cells {w : World} {P : Nat → Prop} {b off : Nat} {ts : List Tm} (h : ∀ i (hi : i < ts.length), TmAt w P b (off + i * 4) ts[i]) :
    ∃ cs : List Value, cs.length = ts.length * 4 ∧ (∀ j v, cs[j]? = some v → w.cell? ⟨b, off + j, none⟩ = some v) ∧ (∀ v ∈ cs, v.oneCell' = true) := by
  induction ts generalizing off with
  | nil => exact ⟨[], by simp, by simp, by simp⟩
  | cons t ts ih =>
    obtain ⟨cs, hl, hc, h1⟩ := ih (off := off + 4) (fun i hi => by have := h (i + 1) (by simpa using hi); simpa [Nat.add_assoc, Nat.add_mul, Nat.add_comm 4] using this)
    have h0 := h 0 (by simp)
    simp only [Nat.zero_mul, Nat.add_zero, List.getElem_cons_zero] at h0
    obtain ⟨a, c, x0, x1, x2, x3, -, -⟩ := h0.read
    refine ⟨[.int .i64 t.k, .int .i64 t.n, .string t.s, .slice a t.args.length c] ++ cs, by simp [hl]; omega, ?_, ?_⟩
    · intro j v hj
      match j with
      | 0 => simp at hj; subst hj; exact x0
      | 1 => simp at hj; subst hj; exact x1
      | 2 => simp at hj; subst hj; exact x2
      | 3 => simp at hj; subst hj; exact x3
      | j + 4 =>
        have := hc j v (by simpa using hj)
        rw [show off + (j + 4) = off + 4 + j by omega]
        exact this
    · intro v hv
      simp only [List.mem_append, List.mem_cons, List.not_mem_nil, or_false] at hv
      rcases hv with (rfl | rfl | rfl | rfl) | hv
      · rfl
      · rfl
      · rfl
      · rfl
      · exact h1 v hv



mutual
theorem TmAt.lt {w : World} {P : Nat → Prop} : ∀ (t : Tm) (b o : Nat), TmAt w P b o t → TmAt w (fun b => P b ∧ b < w.heap.size) b o t
  | .mk k n s args, b, o, h => by
    unfold TmAt at h ⊢
    obtain ⟨a, cap, h0, h1, h2, h3, h4⟩ := h
    exact ⟨a, cap, h0, h1, h2, h3, ArgsFrom.lt args a 0 h4⟩
theorem ArgsFrom.lt {w : World} {P : Nat → Prop} : ∀ (ts : List Tm) (a : Option Addr) (j : Nat), ArgsFrom w P a j ts → ArgsFrom w (fun b => P b ∧ b < w.heap.size) a j ts
  | [], a, j, _ => by unfold ArgsFrom; trivial
  | t :: ts, a, j, h => by
    unfold ArgsFrom at h ⊢
    obtain ⟨⟨b, off, e, hb, ht⟩, h2⟩ := h
    exact ⟨⟨b, off, e, ⟨hb, by obtain ⟨a, c, x0, -⟩ := ht.read; exact World.block_lt_of_cell? _ _ x0⟩, TmAt.lt t b _ ht⟩, ArgsFrom.lt ts a (j + 1) h2⟩
end
theorem IsTm.lt {w : World} {P : Nat → Prop} {v : Value} {t : Tm} (h : IsTm w P v t) : IsTm w (fun b => P b ∧ b < w.heap.size) v t :=
  let ⟨a, cap, e, h⟩ := h; ⟨a, cap, e, ArgsFrom.lt _ a 0 h⟩

def SP (P S : Nat → Prop) : Nat → Prop := fun b => P b ∨ S b
abbrev ptrOf (x : Nat × Nat × Tm) : Value := .pointer (some ⟨x.1, x.2.1, none⟩)
def sumSz : List (Nat × Nat × Tm) → Nat
  | [] => 0
  | x :: l => x.2.2.size + sumSz l
theorem sumSz_app : ∀ (l m : List (Nat × Nat × Tm)), sumSz (l ++ m) = sumSz l + sumSz m
  | [], m => by simp [sumSz]
  | x :: l, m => by simp [sumSz, sumSz_app l m]; omega
theorem len_sumSz : ∀ l : List (Nat × Nat × Tm), l.length ≤ sumSz l
  | [] => by simp
  | x :: l => by have := len_sumSz l; have := size_pos x.2.2; simp [sumSz]; omega

theorem nil_or_snoc {α : Type} (l : List α) : l = [] ∨ ∃ m x, l = m ++ [x] := by
  rcases List.eq_nil_or_concat l with h | ⟨m, x, h⟩
  · exact .inl h
  · exact .inr ⟨m, x, by simpa using h⟩

structure OwnInv (t : Tm) (P S : Nat → Prop) (w : World) (B : Nat) (l : List (Nat × Nat × Tm)) (wr : World) : Prop where
  mine : ∀ b, S b → B ≤ b ∧ b ≠ B + 1 ∧ ∃ cur, wr.heap[b]? = some (.cells cur 33 (0, 0))
  theirs : ∀ b, P b → b < B
  root : S B ∧ TmAt wr (SP P S) B 0 t
  items : ∀ x ∈ l, S x.1 ∧ TmAt wr (SP P S) x.1 x.2.1 x.2.2
  below : Below B w wr
  res : wr.heap[B + 1]? = some (.cells #[.int .i64 0, .int .i64 0, .string ⟨#[]⟩, .slice none 0 0] 33 (0, 0))

/-- a world in which all rows of terms, and all that was there first, are as they were -/
theorem OwnInv.keep {t : Tm} {P S : Nat → Prop} {w : World} {B : Nat} {l : List (Nat × Nat × Tm)} {wr w' : World} (h : OwnInv t P S w B l wr) (hb : Below B wr w')
    (hk : ∀ b cur, B ≤ b → wr.heap[b]? = some (.cells cur 33 (0, 0)) → w'.heap[b]? = wr.heap[b]?) : OwnInv t P S w B l w' := by
  have hsp : ∀ b, SP P S b → b < wr.heap.size → w'.heap[b]? = wr.heap[b]? := fun b hs _ => by
    rcases hs with hs | hs
    · exact hb.block b (h.theirs b hs)
    · obtain ⟨h1, -, cur, hc⟩ := h.mine b hs
      exact hk b cur h1 hc
  refine ⟨fun b hs => ?_, h.theirs, ⟨h.root.1, h.root.2.imp (fun _ h => h) hsp _ _ _ (.inr h.root.1)⟩, fun x hx => ⟨(h.items x hx).1, (h.items x hx).2.imp (fun _ h => h) hsp _ _ _ (.inr (h.items x hx).1)⟩, h.below.trans hb, (hk _ _ (by omega) h.res).trans h.res⟩
  obtain ⟨h1, h2, cur, hc⟩ := h.mine b hs
  exact ⟨h1, h2, cur, (hk b cur h1 hc).trans hc⟩

/-- a new row of terms -/
theorem OwnInv.new {t : Tm} {P S : Nat → Prop} {w : World} {B : Nat} {l : List (Nat × Nat × Tm)} {wr w' : World} (h : OwnInv t P S w B l wr) (hb : Below wr.heap.size wr w') (hB : B + 1 < wr.heap.size) {cs : Array Value}
    (hn : w'.heap[wr.heap.size]? = some (.cells cs 33 (0, 0))) : OwnInv t P (fun b => S b ∨ b = wr.heap.size) w B l w' := by
  have k := h.keep (hb.mono (by omega)) fun b cur _ hc => hb.block b (Array.getElem?_eq_some_iff.1 hc).1
  have hsp : ∀ b, SP P S b → SP P (fun b => S b ∨ b = wr.heap.size) b := fun b hs => hs.elim .inl fun h => .inr (.inl h)
  refine ⟨fun b hs => ?_, k.theirs, ⟨.inl k.root.1, k.root.2.imp hsp (fun _ _ _ => rfl) _ _ _ (.inr k.root.1)⟩, fun x hx => ⟨.inl (k.items x hx).1, (k.items x hx).2.imp hsp (fun _ _ _ => rfl) _ _ _ (.inr (k.items x hx).1)⟩, k.below, k.res⟩
  rcases hs with hs | rfl
  · exact k.mine b hs
  · exact ⟨by omega, by omega, cs, hn⟩

theorem OwnInv.more {t : Tm} {P S : Nat → Prop} {w : World} {B : Nat} {l : List (Nat × Nat × Tm)} {wr : World} (h : OwnInv t P S w B l wr) {b o : Nat} {u : Tm} (hs : S b) (hu : TmAt wr (SP P S) b o u) : OwnInv t P S w B (l ++ [(b, o, u)]) wr :=
  ⟨h.mine, h.theirs, h.root, fun x hx => by
    simp only [List.mem_append, List.mem_singleton] at hx
    rcases hx with hx | rfl
    · exact h.items x hx
    · exact ⟨hs, hu⟩, h.below, h.res⟩

/-- the stack of what waits -/
structure Stack (B : Nat) (g cap n : Nat) (l : List (Nat × Nat × Tm)) (wr : World) : Prop where
  len : l.length = n
  owns : wr.ownsRow B 165 1 (.slice (some ⟨g, 0, none⟩) n cap) n (l.map ptrOf)
theorem Stack.blk {B g cap n : Nat} {l : List (Nat × Nat × Tm)} {wr : World} (h : Stack B g cap n l wr) : ∃ cur, wr.heap[g]? = some (.cells cur 165 (0, 0)) ∧ B ≤ g := by
  obtain ⟨-, h | ⟨g', cap', cur, e, hb, hg, -⟩⟩ := h.owns
  · cases h.1
  · simp only [Value.slice.injEq, Option.some.injEq, Addr.mk.injEq, and_true, true_and] at e
    obtain ⟨rfl, rfl⟩ := e
    exact ⟨cur, hg, hb⟩

theorem owns_pop {w : World} {B g cap n : Nat} {T : TypeId} {xs : List Value} {x : Value} (h : w.ownsRow B T 1 (.slice (some ⟨g, 0, none⟩) (n + 1) cap) (n + 1) (xs ++ [x])) :
    w.ownsRow B T 1 (.slice (some ⟨g, 0, none⟩) n cap) n xs ∧ w.cell? ⟨g, n, none⟩ = some x ∧ n + 1 ≤ cap ∧ xs.length = n := by
  have hl : xs.length = n := by have := h.1; simp at this; omega
  have hcell := h.cellAt n (by omega)
  rw [List.getElem?_append_right (by omega), hl, Nat.sub_self] at hcell
  obtain ⟨-, h | ⟨g', cap', cur, e, hb, hg, hc, hm, hs, ht⟩⟩ := h
  · cases h.1
  · simp only [Value.slice.injEq, Option.some.injEq, Addr.mk.injEq, and_true, true_and] at e
    obtain ⟨rfl, rfl⟩ := e
    refine ⟨⟨by omega, .inr ⟨_, _, cur, rfl, hb, hg, by omega, hm, hs, ?_⟩⟩, hcell, hc, hl⟩
    have := congrArg (List.take n) ht
    rw [List.take_take, List.take_append_of_le_length (by omega), List.take_of_length_le (l := xs) (by omega)] at this
    rw [← this]
    congr 1
    omega

theorem Stack.other {B g cap n : Nat} {l : List (Nat × Nat × Tm)} {wr : World} (h : Stack B g cap n l wr) {b q : Nat} (hb : ∃ cur, wr.heap[b]? = some (.cells cur 33 (0, 0))) (u : Value) : Stack B g cap n l (wr.setCell ⟨b, q, none⟩ u) := by
  refine ⟨h.len, h.owns.1, ?_⟩
  rcases h.owns.2 with h2 | ⟨g', cap', cur, hv, hg, hh, r⟩
  · exact .inl h2
  · refine .inr ⟨g', cap', cur, hv, hg, (Below.heap_setCell _ _ _ _ (show g' ≠ b from fun e => ?_)).trans hh, r⟩
    obtain ⟨c, hc⟩ := hb
    rw [← e, hh] at hc
    simp at hc

theorem Stack.keep {B g cap n : Nat} {l : List (Nat × Nat × Tm)} {wr w' : World} (h : Stack B g cap n l wr) (hb : Below wr.heap.size wr w') : Stack B g cap n l w' := by
  refine ⟨h.len, h.owns.1, ?_⟩
  rcases h.owns.2 with h2 | ⟨g', cap', cur, hv, hg, hh, r⟩
  · exact .inl h2
  · exact .inr ⟨g', cap', cur, hv, hg, (hb.block _ (Array.getElem?_eq_some_iff.1 hh).1).trans hh, r⟩

/-- a row of terms copied into a new row -/
theorem copied {w w' : World} {P P' : Nat → Prop} {b off g : Nat} {ts : List Tm} {cs : List Value} {T : TypeId} {fr : Nat × Nat} (h : ∀ i (hi : i < ts.length), TmAt w P b (off + i * 4) ts[i]) (hl : cs.length = ts.length * 4)
    (hc : ∀ j v, cs[j]? = some v → w.cell? ⟨b, off + j, none⟩ = some v) (hg : w'.heap[g]? = some (.cells cs.toArray T fr)) (hP : ∀ b, P b → P' b) (hw : ∀ b, P b → b < w.heap.size → w'.heap[b]? = w.heap[b]?) :
    ∀ i (hi : i < ts.length), TmAt w' P' g (i * 4) ts[i] := by
  intro i hi
  obtain ⟨a, c, x0, x1, x2, x3, it, -⟩ := (h i hi).read
  have cell : ∀ q v, q < 4 → w.cell? ⟨b, off + i * 4 + q, none⟩ = some v → w'.cell? ⟨g, i * 4 + q, none⟩ = some v := fun q v hq hv => by
    have hlt : i * 4 + q < cs.length := by omega
    have h1 := hc (i * 4 + q) cs[i * 4 + q] (List.getElem?_eq_getElem hlt)
    rw [← Nat.add_assoc, hv] at h1
    rw [cell_of_row w' g _ _ _ _ hg]
    simp only [List.getElem?_toArray, List.getElem?_eq_getElem hlt]
    exact h1.symm
  exact TmAt.mk' (cell 0 _ (by omega) x0) (cell 1 _ (by omega) x1) (cell 2 _ (by omega) x2) (cell 3 _ (by omega) x3) (it.imp hP hw).args

theorem info_term : (Try.prog.info? 33).map (fun i => (i.zero, i.size, i.bytes)) = some (some (.agg #[.int .i64 0, .int .i64 0, .string ⟨#[]⟩, .slice none 0 0]), 4, 56) := by kernel_rfl
theorem info_ptr : (Try.prog.info? 165).map (fun i => (i.zero, i.size, i.bytes)) = some (some (.pointer none), 1, 8) := by kernel_rfl

theorem own_row {w : World} {B g n cap k : Nat} {T : TypeId} {xs : List Value} (h : w.ownsRow B T k (.slice (some ⟨g, 0, none⟩) n cap) n xs) : ∃ cur, w.heap[g]? = some (.cells cur T (0, 0)) ∧ cur.size = cap * k := by
  obtain ⟨-, h | ⟨g', cap', cur, e, hb, hg, hc, hm, hs, ht⟩⟩ := h
  · cases h.1
  · simp only [Value.slice.injEq, Option.some.injEq, Addr.mk.injEq, and_true, true_and] at e
    obtain ⟨rfl, rfl⟩ := e
    exact ⟨cur, hg, hs⟩

theorem one_news (w : World) (x : Value) (T : TypeId) : ∀ j u, [x][j]? = some u → (w.alloc (.cells #[x] T (0, 0))).cell? (Addr.add ⟨w.heap.size, 0, none⟩ j) = some u := by
  intro j u h
  rw [Addr.add_lit, cell_of_row _ _ _ _ _ _ (heap_alloc_new w _)]
  match j with
  | 0 => simpa using h
  | j + 1 => simp at h

theorem sizeL_take : ∀ (l : List Tm) (j : Nat), sizeL (l.take j) ≤ sizeL l
  | [], j => by simp [sizeL]
  | t :: l, 0 => by simp [sizeL]
  | t :: l, j + 1 => by have := sizeL_take l j; simp only [List.take_succ_cons, sizeL]; omega
end Go.Proofs.Ytoklbeogmcdgaaa.Tms
