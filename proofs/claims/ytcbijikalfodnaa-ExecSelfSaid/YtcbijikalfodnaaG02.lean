/-
  Layer texts, glued and made small.
-/
import Derived.Test.YtcbijikalfodnaaG01
import Derived.Laws.Tables
import Derived.Outline
import Derived.Deep.LoopGhost
import Derived.Laws.CopyOwn
set_option linter.unusedVariables false
set_option linter.unusedSimpArgs false
set_option maxRecDepth 100000
set_option maxHeartbeats 1600000
namespace Go.Proofs.Ytcbijikalfodnaa.Tms
open Go Go.Proofs.Ytcbijikalfodnaa.Reg Go.RowKit
abbrev atomV (s : ByteArray) : Value := .agg #[.int .i64 3, .int .i64 0, .string s, .slice none 0 0]
abbrev intV (n : Int) : Value := .agg #[.int .i64 2, .int .i64 n, .string ⟨#[]⟩, .slice none 0 0]
abbrev compV (s : ByteArray) (a : Option Addr) (n cap : Nat) : Value := .agg #[.int .i64 4, .int .i64 0, .string s, .slice a n cap]
def atomT (s : ByteArray) : Tm := .mk 3 0 s []
def intT (n : Int) : Tm := .mk 2 n ⟨#[]⟩ []
def compT (s : ByteArray) (l : List Tm) : Tm := .mk 4 0 s l
theorem atom_is (w : World) (P : Nat → Prop) (s : ByteArray) : IsTm w P (atomV s) (atomT s) := IsTm.mk' (t := atomT s) (IsSl.nil w P none 0)
theorem int_is (w : World) (P : Nat → Prop) (n : Int) : IsTm w P (intV n) (intT n) := IsTm.mk' (t := intT n) (IsSl.nil w P none 0)
theorem comp_is {w : World} {P : Nat → Prop} {s : ByteArray} {a : Option Addr} {cap : Nat} {l : List Tm} (h : IsSl w P (.slice a l.length cap) l) : IsTm w P (compV s a l.length cap) (compT s l) := IsTm.mk' (t := compT s l) h
theorem one4 (k n : Int) (s : ByteArray) (a : Option Addr) (l c : Nat) : (#[Value.int .i64 k, .int .i64 n, .string s, .slice a l c].all fun v => v.oneCell') = true := by simp [Value.oneCell']
theorem size_term : (Try.prog.info? 49).map (·.size) = some 4 := by kernel_rfl
def MakesTm (P : Nat → Prop) (t : Tm) (w : World) (e : Ending) (w' : World) : Prop := ∃ v, e = .returned v ∧ IsTm w' (fun b => P b ∨ w.heap.size ≤ b) v t ∧ Below w.heap.size w w'
theorem argsFrom_at {w : World} {P : Nat → Prop} {a : Option Addr} {ts : List Tm} (h : ArgsFrom w P a 0 ts) (i : Nat) (hi : i < ts.length) : ∃ b off, a = some ⟨b, off, none⟩ ∧ P b ∧ TmAt w P b (off + i * 4) ts[i] := by
 have := argsFrom_iff.1 h i hi
 simpa using this
theorem argsFrom_mk {w : World} {P : Nat → Prop} {a : Option Addr} {ts : List Tm} (h : ∀ i (hi : i < ts.length), ∃ b off, a = some ⟨b, off, none⟩ ∧ P b ∧ TmAt w P b (off + i * 4) ts[i]) : ArgsFrom w P a 0 ts :=
 argsFrom_iff.2 fun i hi => by simpa using h i hi
theorem cell_setCell_ne {w : World} {g q : Nat} {u : Value} {b o : Nat} (h : ¬ (b = g ∧ o = q)) : (w.setCell ⟨g, q, none⟩ u).cell? ⟨b, o, none⟩ = w.cell? ⟨b, o, none⟩ := by
 unfold World.cell? World.setCell; simp only [Array.getElem?_modify]
 by_cases hb : g = b
 ·subst hb
  rw [if_pos rfl]; cases hg : w.heap[g]? with
  | none => simp
  | some x =>
    cases x <;> simp
    rw [Array.getElem?_setIfInBounds, if_neg (by intro e; exact h ⟨rfl, e.symm⟩)]
 ·rw [if_neg hb]
theorem cell_setCell_eq {w : World} {g q : Nat} {u x : Value} (h : w.cell? ⟨g, q, none⟩ = some x) : (w.setCell ⟨g, q, none⟩ u).cell? ⟨g, q, none⟩ = some u := by
 unfold World.cell? at h; unfold World.cell? World.setCell; simp only [Array.getElem?_modify, if_true]; cases hg : w.heap[g]? with
 | none => simp [hg] at h
 | some y =>
   cases y <;> simp [hg] at h ⊢
   obtain ⟨h1, -⟩ := Array.getElem?_eq_some_iff.1 h
   simp [h1]
theorem run_copy_all {P : Program} (w : World) (dT sT ty elem : TypeId) (k n g dc sc : Nat) (a : Addr) (cur : Array Value) (t : TypeId) (cs : List Value) (hu : P.underlying dT = some (.slice elem)) (hs : (P.info? elem).map (·.size) = some k)
 (hg : w.heap[g]? = some (.cells cur t (0, 0))) (hn : cs.length = n * k) (hc : cur.size = n * k) (hsrc : ∀ j v, cs[j]? = some v → w.cell? (a.add j) = some v) (h1 : ∀ v ∈ cs, v.oneCell' = true) :
 (Builtin.copy_ #[dT, sT] ty #[.slice (some ⟨g, 0, none⟩) n dc, .slice (some a) n sc]).run P w = .ok (goInt n) (w.setRow g cs.toArray) := by
 have hl := run_loadCells_list (P := P) w a cs hsrc; have hst := run_storeCells_at P g 0 t cs 0 cur w hg (by omega) h1; have hd : cur.toList.drop cs.length = [] := by rw [List.drop_eq_nil_iff]; simp; omega
 simp only [Nat.add_zero, Nat.zero_add, List.take_zero, List.nil_append, hd, List.append_nil] at hst; cases hq : P.info? elem with
 | none => simp [hq] at hs
 | some i =>
   have hi : i.size = k := by simpa [hq] using hs
   simp [Builtin.copy_, run_underlying hu, Builtin.lenOf, Builtin.firstCells, sizeOf, typeInfo, hq, hi, ← hn, hl, hst]
theorem wpList_copy_all {P : Program} {w : World} {ops : Array Oper} {rest : List Oper} {o : Oper} {a : Act} {Q : Exit → Act → World → Prop} (hgd : o.guard = none) (d s : Operand) (dT sT : TypeId)
 (ho : o.op = .call { callee := .builtin .copy, args := #[d, s], argTypes := #[dT, sT] }) (elem : TypeId) (k n g dc sc : Nat) (ad : Addr) (hu : P.underlying dT = some (.slice elem)) (hs : (P.info? elem).map (·.size) = some k)
 (hd : a.eval d = .slice (some ⟨g, 0, none⟩) n dc) (hx : a.eval s = .slice (some ad) n sc) (cur : Array Value) (t : TypeId) (cs : List Value) (hg : w.heap[g]? = some (.cells cur t (0, 0))) (hn : cs.length = n * k) (hc : cur.size = n * k)
 (hsrc : ∀ j v, cs[j]? = some v → w.cell? (ad.add j) = some v) (h1 : ∀ v ∈ cs, v.oneCell' = true) (h : wpList P ops Q rest (a.put o.dst (goInt n)) (w.setRow g cs.toArray)) : wpList P ops Q (o :: rest) a w := by
 refine wpList_plain hgd fun K hK => ?_
 have hrun := run_copy_all (P := P) w dT sT o.type elem k n g dc sc ad cur t cs hu hs hg hn hc hsrc h1; unfold Oper.wp
 simp [execOp, ho, resolve, invoke, builtin, hd, hx, hrun, Result.andThen]
 exact hK _ _ h
theorem row_cells {w : World} {P : Nat → Prop} {b off : Nat} {ts : List Tm} (h : ∀ i (hi : i < ts.length), TmAt w P b (off + i * 4) ts[i]) :
 ∃ cs : List Value, cs.length = ts.length * 4 ∧ (∀ j v, cs[j]? = some v → w.cell? ⟨b, off + j, none⟩ = some v) ∧ (∀ v ∈ cs, v.oneCell' = true) := by
 induction ts generalizing off with
 | nil => exact ⟨[], by simp, by simp, by simp⟩
 | cons t ts ih =>
   obtain ⟨cs, hl, hc, h1⟩ := ih (off := off + 4) (fun i hi => by have := h (i + 1) (by simpa using hi); simpa [Nat.add_assoc, Nat.add_mul, Nat.add_comm 4] using this); have h0 := h 0 (by simp); simp only [Nat.zero_mul, Nat.add_zero, List.getElem_cons_zero] at h0; obtain ⟨a, c, x0, x1, x2, x3, -, -⟩ := h0.read; refine ⟨[.int .i64 t.k, .int .i64 t.n, .string t.s, .slice a t.args.length c] ++ cs, by simp [hl]; omega, ?_, ?_⟩
   ·intro j v hj
    match j with
    | 0 => simp at hj; subst hj; exact x0
    | 1 => simp at hj; subst hj; exact x1
    | 2 => simp at hj; subst hj; exact x2
    | 3 => simp at hj; subst hj; exact x3
    | j + 4 =>
      have := hc j v (by simpa using hj); rw [show off + (j + 4) = off + 4 + j by omega]; exact this
   ·intro v hv
    simp only [List.mem_append, List.mem_cons, List.not_mem_nil, or_false] at hv; rcases hv with (rfl | rfl | rfl | rfl) | hv
    ·rfl
    ·rfl
    ·rfl
    ·rfl
    ·exact h1 v hv
mutual
theorem TmAt.lt {w : World} {P : Nat → Prop} : ∀ (t : Tm) (b o : Nat), TmAt w P b o t → TmAt w (fun b => P b ∧ b < w.heap.size) b o t
 | .mk k n s args, b, o, h => by
   unfold TmAt at h ⊢; obtain ⟨a, cap, h0, h1, h2, h3, h4⟩ := h; exact ⟨a, cap, h0, h1, h2, h3, ArgsFrom.lt args a 0 h4⟩
theorem ArgsFrom.lt {w : World} {P : Nat → Prop} : ∀ (ts : List Tm) (a : Option Addr) (j : Nat), ArgsFrom w P a j ts → ArgsFrom w (fun b => P b ∧ b < w.heap.size) a j ts
 | [], a, j, _ => by unfold ArgsFrom; trivial
 | t :: ts, a, j, h => by
   unfold ArgsFrom at h ⊢; obtain ⟨⟨b, off, e, hb, ht⟩, h2⟩ := h; exact ⟨⟨b, off, e, ⟨hb, by obtain ⟨a, c, x0, -⟩ := ht.read; exact World.block_lt_of_cell? _ _ x0⟩, TmAt.lt t b _ ht⟩, ArgsFrom.lt ts a (j + 1) h2⟩
end
theorem IsTm.lt {w : World} {P : Nat → Prop} {v : Value} {t : Tm} (h : IsTm w P v t) : IsTm w (fun b => P b ∧ b < w.heap.size) v t :=
 let ⟨a, cap, e, h⟩ := h; ⟨a, cap, e, ArgsFrom.lt _ a 0 h⟩
def SP (P S : Nat → Prop) : Nat → Prop := fun b => P b ∨ S b
abbrev ptrOf (x : Nat × Nat × Tm) : Value := .pointer (some ⟨x.1, x.2.1, none⟩)
def sumSz : List (Nat × Nat × Tm) → Nat
 | [] => 0
 | x :: l => x.2.2.size + sumSz l
theorem sumSz_app : ∀ (l m : List (Nat × Nat × Tm)), sumSz (l ++ m) = sumSz l + sumSz m
 | [], m => by simp [sumSz]
 | x :: l, m => by simp [sumSz, sumSz_app l m]; omega
theorem len_sumSz : ∀ l : List (Nat × Nat × Tm), l.length ≤ sumSz l
 | [] => by simp
 | x :: l => by have := len_sumSz l; have := size_pos x.2.2; simp [sumSz]; omega
theorem nil_or_snoc {α : Type} (l : List α) : l = [] ∨ ∃ m x, l = m ++ [x] := by
 rcases List.eq_nil_or_concat l with h | ⟨m, x, h⟩
 ·exact .inl h
 ·exact .inr ⟨m, x, by simpa using h⟩
structure OwnInv (t : Tm) (P S : Nat → Prop) (w : World) (B : Nat) (l : List (Nat × Nat × Tm)) (wr : World) : Prop where
 mine : ∀ b, S b → B ≤ b ∧ b ≠ B + 1 ∧ ∃ cur, wr.heap[b]? = some (.cells cur 49 (0, 0))
 theirs : ∀ b, P b → b < B
 root : S B ∧ TmAt wr (SP P S) B 0 t
 items : ∀ x ∈ l, S x.1 ∧ TmAt wr (SP P S) x.1 x.2.1 x.2.2
 below : Below B w wr
 res : wr.heap[B + 1]? = some (.cells #[.int .i64 0, .int .i64 0, .string ⟨#[]⟩, .slice none 0 0] 49 (0, 0))
theorem OwnInv.keep {t : Tm} {P S : Nat → Prop} {w : World} {B : Nat} {l : List (Nat × Nat × Tm)} {wr w' : World} (h : OwnInv t P S w B l wr) (hb : Below B wr w')
 (hk : ∀ b cur, B ≤ b → wr.heap[b]? = some (.cells cur 49 (0, 0)) → w'.heap[b]? = wr.heap[b]?) : OwnInv t P S w B l w' := by
 have hsp : ∀ b, SP P S b → b < wr.heap.size → w'.heap[b]? = wr.heap[b]? := fun b hs _ => by
  rcases hs with hs | hs
  ·exact hb.block b (h.theirs b hs)
  ·obtain ⟨h1, -, cur, hc⟩ := h.mine b hs
   exact hk b cur h1 hc
 refine ⟨fun b hs => ?_, h.theirs, ⟨h.root.1, h.root.2.imp (fun _ h => h) hsp _ _ _ (.inr h.root.1)⟩, fun x hx => ⟨(h.items x hx).1, (h.items x hx).2.imp (fun _ h => h) hsp _ _ _ (.inr (h.items x hx).1)⟩, h.below.trans hb, (hk _ _ (by omega) h.res).trans h.res⟩; obtain ⟨h1, h2, cur, hc⟩ := h.mine b hs; exact ⟨h1, h2, cur, (hk b cur h1 hc).trans hc⟩
theorem OwnInv.new {t : Tm} {P S : Nat → Prop} {w : World} {B : Nat} {l : List (Nat × Nat × Tm)} {wr w' : World} (h : OwnInv t P S w B l wr) (hb : Below wr.heap.size wr w') (hB : B + 1 < wr.heap.size) {cs : Array Value}
 (hn : w'.heap[wr.heap.size]? = some (.cells cs 49 (0, 0))) : OwnInv t P (fun b => S b ∨ b = wr.heap.size) w B l w' := by
 have k := h.keep (hb.mono (by omega)) fun b cur _ hc => hb.block b (Array.getElem?_eq_some_iff.1 hc).1
 have hsp : ∀ b, SP P S b → SP P (fun b => S b ∨ b = wr.heap.size) b := fun b hs => hs.elim .inl fun h => .inr (.inl h)
 refine ⟨fun b hs => ?_, k.theirs, ⟨.inl k.root.1, k.root.2.imp hsp (fun _ _ _ => rfl) _ _ _ (.inr k.root.1)⟩, fun x hx => ⟨.inl (k.items x hx).1, (k.items x hx).2.imp hsp (fun _ _ _ => rfl) _ _ _ (.inr (k.items x hx).1)⟩, k.below, k.res⟩; rcases hs with hs | rfl
 ·exact k.mine b hs
 ·exact ⟨by omega, by omega, cs, hn⟩
theorem OwnInv.more {t : Tm} {P S : Nat → Prop} {w : World} {B : Nat} {l : List (Nat × Nat × Tm)} {wr : World} (h : OwnInv t P S w B l wr) {b o : Nat} {u : Tm} (hs : S b) (hu : TmAt wr (SP P S) b o u) : OwnInv t P S w B (l ++ [(b, o, u)]) wr :=
 ⟨h.mine, h.theirs, h.root, fun x hx => by
   simp only [List.mem_append, List.mem_singleton] at hx; rcases hx with hx | rfl
   ·exact h.items x hx
   ·exact ⟨hs, hu⟩, h.below, h.res⟩
structure Stack (B : Nat) (g cap n : Nat) (l : List (Nat × Nat × Tm)) (wr : World) : Prop where
 len : l.length = n
 owns : wr.ownsRow B 142 1 (.slice (some ⟨g, 0, none⟩) n cap) n (l.map ptrOf)
theorem Stack.blk {B g cap n : Nat} {l : List (Nat × Nat × Tm)} {wr : World} (h : Stack B g cap n l wr) : ∃ cur, wr.heap[g]? = some (.cells cur 142 (0, 0)) ∧ B ≤ g := by
 obtain ⟨-, h | ⟨g', cap', cur, e, hb, hg, -⟩⟩ := h.owns
 ·cases h.1
 ·simp only [Value.slice.injEq, Option.some.injEq, Addr.mk.injEq, and_true, true_and] at e
  obtain ⟨rfl, rfl⟩ := e; exact ⟨cur, hg, hb⟩
theorem owns_pop {w : World} {B g cap n : Nat} {T : TypeId} {xs : List Value} {x : Value} (h : w.ownsRow B T 1 (.slice (some ⟨g, 0, none⟩) (n + 1) cap) (n + 1) (xs ++ [x])) :
 w.ownsRow B T 1 (.slice (some ⟨g, 0, none⟩) n cap) n xs ∧ w.cell? ⟨g, n, none⟩ = some x ∧ n + 1 ≤ cap ∧ xs.length = n := by
 have hl : xs.length = n := by have := h.1; simp at this; omega
 have hcell := h.cellAt n (by omega); rw [List.getElem?_append_right (by omega), hl, Nat.sub_self] at hcell; obtain ⟨-, h | ⟨g', cap', cur, e, hb, hg, hc, hm, hs, ht⟩⟩ := h
 ·cases h.1
 ·simp only [Value.slice.injEq, Option.some.injEq, Addr.mk.injEq, and_true, true_and] at e
  obtain ⟨rfl, rfl⟩ := e; refine ⟨⟨by omega, .inr ⟨_, _, cur, rfl, hb, hg, by omega, hm, hs, ?_⟩⟩, hcell, hc, hl⟩; have := congrArg (List.take n) ht; rw [List.take_take, List.take_append_of_le_length (by omega), List.take_of_length_le (l := xs) (by omega)] at this; rw [← this]
  congr 1
  omega
theorem Stack.other {B g cap n : Nat} {l : List (Nat × Nat × Tm)} {wr : World} (h : Stack B g cap n l wr) {b q : Nat} (hb : ∃ cur, wr.heap[b]? = some (.cells cur 49 (0, 0))) (u : Value) : Stack B g cap n l (wr.setCell ⟨b, q, none⟩ u) := by
 refine ⟨h.len, h.owns.1, ?_⟩; rcases h.owns.2 with h2 | ⟨g', cap', cur, hv, hg, hh, r⟩
 ·exact .inl h2
 ·refine .inr ⟨g', cap', cur, hv, hg, (Below.heap_setCell _ _ _ _ (show g' ≠ b from fun e => ?_)).trans hh, r⟩
  obtain ⟨c, hc⟩ := hb; rw [← e, hh] at hc
  simp at hc
theorem Stack.keep {B g cap n : Nat} {l : List (Nat × Nat × Tm)} {wr w' : World} (h : Stack B g cap n l wr) (hb : Below wr.heap.size wr w') : Stack B g cap n l w' := by
 refine ⟨h.len, h.owns.1, ?_⟩; rcases h.owns.2 with h2 | ⟨g', cap', cur, hv, hg, hh, r⟩
 ·exact .inl h2
 ·exact .inr ⟨g', cap', cur, hv, hg, (hb.block _ (Array.getElem?_eq_some_iff.1 hh).1).trans hh, r⟩
theorem copied {w w' : World} {P P' : Nat → Prop} {b off g : Nat} {ts : List Tm} {cs : List Value} {T : TypeId} {fr : Nat × Nat} (h : ∀ i (hi : i < ts.length), TmAt w P b (off + i * 4) ts[i]) (hl : cs.length = ts.length * 4)
 (hc : ∀ j v, cs[j]? = some v → w.cell? ⟨b, off + j, none⟩ = some v) (hg : w'.heap[g]? = some (.cells cs.toArray T fr)) (hP : ∀ b, P b → P' b) (hw : ∀ b, P b → b < w.heap.size → w'.heap[b]? = w.heap[b]?) :
 ∀ i (hi : i < ts.length), TmAt w' P' g (i * 4) ts[i] := by
 intro i hi; obtain ⟨a, c, x0, x1, x2, x3, it, -⟩ := (h i hi).read
 have cell : ∀ q v, q < 4 → w.cell? ⟨b, off + i * 4 + q, none⟩ = some v → w'.cell? ⟨g, i * 4 + q, none⟩ = some v := fun q v hq hv => by
  have hlt : i * 4 + q < cs.length := by omega
  have h1 := hc (i * 4 + q) cs[i * 4 + q] (List.getElem?_eq_getElem hlt); rw [← Nat.add_assoc, hv] at h1; rw [cell_of_row w' g _ _ _ _ hg]; simp only [List.getElem?_toArray, List.getElem?_eq_getElem hlt]; exact h1.symm
 exact TmAt.mk' (cell 0 _ (by omega) x0) (cell 1 _ (by omega) x1) (cell 2 _ (by omega) x2) (cell 3 _ (by omega) x3) (it.imp hP hw).args
theorem info_term : (Try.prog.info? 49).map (fun i => (i.zero, i.size, i.bytes)) = some (some (.agg #[.int .i64 0, .int .i64 0, .string ⟨#[]⟩, .slice none 0 0]), 4, 56) := by kernel_rfl
theorem info_ptr : (Try.prog.info? 142).map (fun i => (i.zero, i.size, i.bytes)) = some (some (.pointer none), 1, 8) := by kernel_rfl
theorem own_row {w : World} {B g n cap k : Nat} {T : TypeId} {xs : List Value} (h : w.ownsRow B T k (.slice (some ⟨g, 0, none⟩) n cap) n xs) : ∃ cur, w.heap[g]? = some (.cells cur T (0, 0)) ∧ cur.size = cap * k := by
 obtain ⟨-, h | ⟨g', cap', cur, e, hb, hg, hc, hm, hs, ht⟩⟩ := h
 ·cases h.1
 ·simp only [Value.slice.injEq, Option.some.injEq, Addr.mk.injEq, and_true, true_and] at e
  obtain ⟨rfl, rfl⟩ := e; exact ⟨cur, hg, hs⟩
theorem one_news (w : World) (x : Value) (T : TypeId) : ∀ j u, [x][j]? = some u → (w.alloc (.cells #[x] T (0, 0))).cell? (Addr.add ⟨w.heap.size, 0, none⟩ j) = some u := by
 intro j u h; rw [Addr.add_lit, cell_of_row _ _ _ _ _ _ (heap_alloc_new w _)]
 match j with
 | 0 => simpa using h
 | j + 1 => simp at h
theorem sizeL_take : ∀ (l : List Tm) (j : Nat), sizeL (l.take j) ≤ sizeL l
 | [], j => by simp [sizeL]
 | t :: l, 0 => by simp [sizeL]
 | t :: l, j + 1 => by have := sizeL_take l j; simp only [List.take_succ_cons, sizeL]; omega
end Go.Proofs.Ytcbijikalfodnaa.Tms
namespace Go.Proofs.Ytcbijikalfodnaa.Tms
open Go Go.RowKit
def mayB (k n : Int) (s : ByteArray) (m : Nat) : Bool :=
 if k = 1 then decide (0 ≤ n) && (s.toList.isEmpty && decide (m = 0)) else if k = 2 then s.toList.isEmpty && decide (m = 0)
 else if k = 3 then decide (n = 0) && (decide (s.size ≤ 1000) && decide (m = 0)) else if k = 4 then decide (n = 0) && (decide (s.size ≤ 1000) && (decide (1 ≤ m) && decide (m ≤ 255))) else false
theorem tm_may (k n : Int) (s : ByteArray) (a : Option Addr) (m c : Nat) (w : World) (hm : m ≤ 1000000000) :
 Calls Try.prog 71 #[.agg #[.int .i64 k, .int .i64 n, .string s, .slice a m c]] w (Says (mayB k n s m) w) := by
 by_cases k1 : k = 1
 ·subst k1
  by_cases h1 : 0 ≤ n
  ·cases h2 : s.toList.isEmpty
   ·have hr : mayB 1 n s m = false := by simp [mayB, h1, h2]
    rw [hr]; clear hr
    go_enter Try.func71, Try.ntmps71
    go_wp2; go_ret; exact ⟨rfl, (Below.refl _ _).alloc (Nat.le_refl _) _⟩
   ·by_cases h3 : m = 0
    ·have q3 : ((m : Int) == 0) = true := by rw [beq_iff_eq]; omega
     have hr : mayB 1 n s m = true := by simp [mayB, h1, h2, h3]
     rw [hr]; clear hr
     go_enter Try.func71, Try.ntmps71
     go_wp2; go_ret; exact ⟨rfl, (Below.refl _ _).alloc (Nat.le_refl _) _⟩
    ·have q3 : ((m : Int) == 0) = false := by rw [beq_eq_false_iff_ne]; omega
     have hr : mayB 1 n s m = false := by simp [mayB, h1, h2, h3]
     rw [hr]; clear hr
     go_enter Try.func71, Try.ntmps71
     go_wp2; go_ret; exact ⟨rfl, (Below.refl _ _).alloc (Nat.le_refl _) _⟩
  ·have hr : mayB 1 n s m = false := by simp [mayB, h1]
   rw [hr]; clear hr
   go_enter Try.func71, Try.ntmps71
   go_wp2; go_ret; exact ⟨rfl, (Below.refl _ _).alloc (Nat.le_refl _) _⟩
 by_cases k2 : k = 2
 ·subst k2
  cases h1 : s.toList.isEmpty
  ·have hr : mayB 2 n s m = false := by simp [mayB, h1]
   rw [hr]; clear hr
   go_enter Try.func71, Try.ntmps71
   go_wp2; go_ret; exact ⟨rfl, (Below.refl _ _).alloc (Nat.le_refl _) _⟩
  ·by_cases h2 : m = 0
   ·have q2 : ((m : Int) == 0) = true := by rw [beq_iff_eq]; omega
    have hr : mayB 2 n s m = true := by simp [mayB, h1, h2]
    rw [hr]; clear hr
    go_enter Try.func71, Try.ntmps71
    go_wp2; go_ret; exact ⟨rfl, (Below.refl _ _).alloc (Nat.le_refl _) _⟩
   ·have q2 : ((m : Int) == 0) = false := by rw [beq_eq_false_iff_ne]; omega
    have hr : mayB 2 n s m = false := by simp [mayB, h1, h2]
    rw [hr]; clear hr
    go_enter Try.func71, Try.ntmps71
    go_wp2; go_ret; exact ⟨rfl, (Below.refl _ _).alloc (Nat.le_refl _) _⟩
 by_cases k3 : k = 3
 ·subst k3
  by_cases h1 : n = 0
  ·have q1 : (n == 0) = true := by rw [beq_iff_eq]; omega
   by_cases h2 : s.size ≤ 1000
   ·by_cases h3 : m = 0
    ·have q3 : ((m : Int) == 0) = true := by rw [beq_iff_eq]; omega
     have hr : mayB 3 n s m = true := by simp [mayB, h1, h2, h3]
     rw [hr]; clear hr
     go_enter Try.func71, Try.ntmps71
     go_wp2; go_ret; exact ⟨rfl, (Below.refl _ _).alloc (Nat.le_refl _) _⟩
    ·have q3 : ((m : Int) == 0) = false := by rw [beq_eq_false_iff_ne]; omega
     have hr : mayB 3 n s m = false := by simp [mayB, h1, h2, h3]
     rw [hr]; clear hr
     go_enter Try.func71, Try.ntmps71
     go_wp2; go_ret; exact ⟨rfl, (Below.refl _ _).alloc (Nat.le_refl _) _⟩
   ·have hr : mayB 3 n s m = false := by simp [mayB, h1, h2]
    rw [hr]; clear hr
    go_enter Try.func71, Try.ntmps71
    go_wp2; go_ret; exact ⟨rfl, (Below.refl _ _).alloc (Nat.le_refl _) _⟩
  ·have q1 : (n == 0) = false := by rw [beq_eq_false_iff_ne]; omega
   have hr : mayB 3 n s m = false := by simp [mayB, h1]
   rw [hr]; clear hr
   go_enter Try.func71, Try.ntmps71
   go_wp2; go_ret; exact ⟨rfl, (Below.refl _ _).alloc (Nat.le_refl _) _⟩
 by_cases k4 : k = 4
 ·subst k4
  by_cases h1 : n = 0
  ·have q1 : (n == 0) = true := by rw [beq_iff_eq]; omega
   by_cases h2 : s.size ≤ 1000
   ·by_cases h3 : 1 ≤ m
    ·by_cases h4 : m ≤ 255
     ·have q4 : decide ((m : Int) ≤ 255) = true := by simp; omega
      have hr : mayB 4 n s m = true := by simp [mayB, h1, h2, h3, h4]
      rw [hr]; clear hr
      go_enter Try.func71, Try.ntmps71
      go_wp2; go_ret; exact ⟨rfl, (Below.refl _ _).alloc (Nat.le_refl _) _⟩
     ·have q4 : decide ((m : Int) ≤ 255) = false := by simp; omega
      have hr : mayB 4 n s m = false := by simp [mayB, h1, h2, h3, h4]
      rw [hr]; clear hr
      go_enter Try.func71, Try.ntmps71
      go_wp2; go_ret; exact ⟨rfl, (Below.refl _ _).alloc (Nat.le_refl _) _⟩
    ·have hr : mayB 4 n s m = false := by simp [mayB, h1, h2, h3]
     rw [hr]; clear hr
     go_enter Try.func71, Try.ntmps71
     go_wp2; go_ret; exact ⟨rfl, (Below.refl _ _).alloc (Nat.le_refl _) _⟩
   ·have hr : mayB 4 n s m = false := by simp [mayB, h1, h2]
    rw [hr]; clear hr
    go_enter Try.func71, Try.ntmps71
    go_wp2; go_ret; exact ⟨rfl, (Below.refl _ _).alloc (Nat.le_refl _) _⟩
  ·have q1 : (n == 0) = false := by rw [beq_eq_false_iff_ne]; omega
   have hr : mayB 4 n s m = false := by simp [mayB, h1]
   rw [hr]; clear hr
   go_enter Try.func71, Try.ntmps71
   go_wp2; go_ret; exact ⟨rfl, (Below.refl _ _).alloc (Nat.le_refl _) _⟩
 have g1 : (k == 1) = false := by simpa using k1
 have g2 : (k == 2) = false := by simpa using k2
 have g3 : (k == 3) = false := by simpa using k3
 have g4 : (k == 4) = false := by simpa using k4
 have hr : mayB k n s m = false := by simp [mayB, k1, k2, k3, k4]
 rw [hr]; clear hr k1 k2 k3 k4
 go_enter Try.func71, Try.ntmps71
 go_wp2; go_ret; exact ⟨rfl, (Below.refl _ _).alloc (Nat.le_refl _) _⟩
def Took (b : Nat) (bad : Bool) (sz dp : Int) (w : World) (e : Ending) (w' : World) : Prop :=
 e = .returned (.tuple #[]) ∧ w'.heap[b]? = some (.cells #[.bool bad, .int .i64 sz, .int .i64 dp] 135 (0, 0)) ∧ w.grownBy w' (some b)
theorem meas_two {w : World} {b : Nat} {bad : Bool} {sz dp y : Int} (x : Int) (hb : w.heap[b]? = some (.cells #[.bool bad, .int .i64 sz, .int .i64 dp] 135 (0, 0))) :
 ((w.setCell ⟨b, 1, none⟩ (.int .i64 y)).setCell ⟨b, 2, none⟩ (.int .i64 x)).heap[b]? = some (.cells #[.bool bad, .int .i64 y, .int .i64 x] 135 (0, 0)) ∧ w.grownBy ((w.setCell ⟨b, 1, none⟩ (.int .i64 y)).setCell ⟨b, 2, none⟩ (.int .i64 x)) (some b) := by
 have h1 := heap_setCell_same w b 1 _ _ (.int .i64 y) hb; have h2 := heap_setCell_same _ b 2 _ _ (.int .i64 x) h1; refine ⟨by simpa using h2, ⟨rfl, rfl, rfl, by simp [World.setCell], fun k _ hk => ?_⟩⟩; have hne : k ≠ b := fun e => hk (by rw [e])
 exact (Below.heap_setCell _ _ _ _ hne).trans (Below.heap_setCell _ _ _ _ hne)
theorem tm_take (b : Nat) (bad : Bool) (sz dp d k n : Int) (s : ByteArray) (a : Option Addr) (m c : Nat) (w : World) (hm : m ≤ 1000000000) (h0 : 0 ≤ sz) (h1 : sz ≤ 1000000000)
 (hb : w.heap[b]? = some (.cells #[.bool bad, .int .i64 sz, .int .i64 dp] 135 (0, 0))) :
 Calls Try.prog 70 #[.pointer (some ⟨b, 0, none⟩), .agg #[.int .i64 k, .int .i64 n, .string s, .slice a m c], .int .i64 d] w (Took b (bad || !mayB k n s m) (sz + 1) (max dp d) w) := by
 have c0 : w.cell? ⟨b, 0, none⟩ = some (.bool bad) := cell_of_row w b 0 _ _ _ hb; have c1 : w.cell? ⟨b, 1, none⟩ = some (.int .i64 sz) := cell_of_row w b 1 _ _ _ hb; have c2 : w.cell? ⟨b, 2, none⟩ = some (.int .i64 dp) := cell_of_row w b 2 _ _ _ hb; have hlt : b < w.heap.size := (Array.getElem?_eq_some_iff.1 hb).1; have z1 : w.frozen? ⟨b, 1, none⟩ = false := frozen_of_row w b 1 _ _ hb; have z2 : w.frozen? ⟨b, 2, none⟩ = false := frozen_of_row w b 2 _ _ hb; have HB := Lib.hid hb; clear hb; cases hmay : mayB k n s m
 all_goals
  have HMAY := Lib.hid hmay; clear hmay
  go_enter Try.func70, Try.ntmps70
  go_wp2_with fail
  all_goals
   first
    | (have hx := meas_two (y := sz + 1) dp HB.out
       have hmx : max dp d = dp := by omega
       have hbm : Below b w ((w.setCell ⟨b, 1, none⟩ (.int .i64 (sz + 1))).setCell ⟨b, 2, none⟩ (.int .i64 dp)) := (Below.refl b w).grown hx.2 (Nat.le_of_lt hlt) (by intro k e; cases e; exact Nat.le_refl _); generalize ((w.setCell ⟨b, 1, none⟩ (.int .i64 (sz + 1))).setCell ⟨b, 2, none⟩ (.int .i64 dp)) = W2 at *)
    | (have hx := meas_two (y := sz + 1) d HB.out
       have hmx : max dp d = d := by omega
       have hbm : Below b w ((w.setCell ⟨b, 1, none⟩ (.int .i64 (sz + 1))).setCell ⟨b, 2, none⟩ (.int .i64 d)) := (Below.refl b w).grown hx.2 (Nat.le_of_lt hlt) (by intro k e; cases e; exact Nat.le_refl _); generalize ((w.setCell ⟨b, 1, none⟩ (.int .i64 (sz + 1))).setCell ⟨b, 2, none⟩ (.int .i64 d)) = W2 at *)
   have hl2 : b < W2.heap.size := (Array.getElem?_eq_some_iff.1 hx.1).1; refine (tm_may k n s a m c _ hm).mono ?_; rintro e w3 ⟨rfl, hb3⟩; rw [HMAY.out]; have h3 := (hb3.block b (by simp; omega)).trans ((heap_alloc_old _ _ hl2).trans hx.1); have g3 : w.grownBy w3 (some b) := ⟨hb3.os.trans hx.2.os, hb3.tape.trans hx.2.tape, hb3.output.trans hx.2.output, by have := hb3.size; have := hx.2.size; simp at *; omega, fun q hq hne => (hb3.block q (by have := hx.2.size; simp; omega)).trans ((heap_alloc_old _ _ (by have := hx.2.size; omega)).trans (hx.2.block q hq hne))⟩; have y0 := cell_of_row w3 b 0 _ _ _ h3; have yz := frozen_of_row w3 b 0 _ _ h3; have hs3 := heap_setCell_same w3 b 0 _ _ (.bool true) h3; have g4 : w.grownBy (w3.setCell ⟨b, 0, none⟩ (.bool true)) (some b) := ⟨g3.os, g3.tape, g3.output, by have := g3.size; simpa [World.setCell] using this, fun q hq hne => (Below.heap_setCell _ _ _ _ (fun e => hne (by rw [e]))).trans (g3.block q hq hne)⟩; have H3 := Lib.hid h3; have G3 := Lib.hid g3; have HS3 := Lib.hid hs3; have G4 := Lib.hid g4; have HMX := Lib.hid hmx; clear h3 g3 hs3 g4 hmx hx hbm hb3 c0 c1 c2 z1 z2; go_wp2; refine ⟨rfl, .tuple #[], by simp [results, Try.results70, go_sem], rfl, ?_⟩; rw [HMX.out]
   first
    | exact ⟨by simpa using HS3.out, G4.out⟩
    | exact ⟨by simpa using H3.out, G3.out⟩
end Go.Proofs.Ytcbijikalfodnaa.Tms
namespace Go.Proofs.Ytcbijikalfodnaa.Tms
open Go Go.RowKit Go.Proofs.Ytcbijikalfodnaa.Reg
def CellsOf (w : World) (P : Nat → Prop) : List Value → List Tm → Prop
 | [], [] => True
 | k :: n :: s :: l :: rest, t :: ts => k = .int .i64 t.k ∧ n = .int .i64 t.n ∧ s = .string t.s ∧ (∃ a c, l = .slice a t.args.length c ∧ ArgsFrom w P a 0 t.args) ∧ CellsOf w P rest ts
 | _, _ => False
theorem CellsOf.imp2 {w w' : World} {P P' : Nat → Prop} (hP : ∀ b, P b → P' b) (hw : ∀ b, P b → b < w.heap.size → w'.heap[b]? = w.heap[b]?) : ∀ {xs : List Value} {ts : List Tm}, CellsOf w P xs ts → CellsOf w' P' xs ts
 | [], [], _ => trivial
 | _ :: _ :: _ :: _ :: _, _ :: _, ⟨h1, h2, h3, ⟨a, c, e, h4⟩, h5⟩ => ⟨h1, h2, h3, ⟨a, c, e, ArgsFrom.imp hP hw _ _ _ h4⟩, CellsOf.imp2 hP hw h5⟩
 | [], _ :: _, h => h.elim
 | _ :: [], [], h => h.elim
 | _ :: [], _ :: _, h => h.elim
 | _ :: _ :: [], [], h => h.elim
 | _ :: _ :: [], _ :: _, h => h.elim
 | _ :: _ :: _ :: [], [], h => h.elim
 | _ :: _ :: _ :: [], _ :: _, h => h.elim
 | _ :: _ :: _ :: _ :: _, [], h => h.elim
theorem CellsOf.snoc {w : World} {P : Nat → Prop} {c0 c1 c2 c3 : Value} {t : Tm} (ht : IsTm w P (.agg #[c0, c1, c2, c3]) t) : ∀ {xs : List Value} {ts : List Tm}, CellsOf w P xs ts → CellsOf w P (xs ++ [c0, c1, c2, c3]) (ts ++ [t])
 | [], [], _ => by
   obtain ⟨a, c, e, h⟩ := ht; simp only [Value.agg.injEq, Array.mk.injEq, List.cons.injEq, and_true] at e; obtain ⟨rfl, rfl, rfl, rfl⟩ := e; exact ⟨rfl, rfl, rfl, ⟨a, c, rfl, h⟩, trivial⟩
 | _ :: _ :: _ :: _ :: _, _ :: _, ⟨h1, h2, h3, h4, h5⟩ => ⟨h1, h2, h3, h4, CellsOf.snoc ht h5⟩
 | [], _ :: _, h => h.elim
 | _ :: [], [], h => h.elim
 | _ :: [], _ :: _, h => h.elim
 | _ :: _ :: [], [], h => h.elim
 | _ :: _ :: [], _ :: _, h => h.elim
 | _ :: _ :: _ :: [], [], h => h.elim
 | _ :: _ :: _ :: [], _ :: _, h => h.elim
 | _ :: _ :: _ :: _ :: _, [], h => h.elim
theorem CellsOf.at_ {w : World} {P : Nat → Prop} {g : Nat} : ∀ {xs : List Value} {ts : List Tm} (o : Nat), CellsOf w P xs ts → (∀ j v, xs[j]? = some v → w.cell? ⟨g, o + j, none⟩ = some v) → ∀ i (hi : i < ts.length), TmAt w P g (o + i * 4) ts[i]
 | [], [], _, _, _, i, hi => by simp at hi
 | k :: n :: s :: l :: rest, t :: ts, o, ⟨h1, h2, h3, ⟨a, c, e, h4⟩, h5⟩, hc, 0, _ => by
   have x0 := hc 0 _ rfl; have x1 := hc 1 _ rfl; have x2 := hc 2 _ rfl; have x3 := hc 3 _ rfl; rw [h1] at x0; rw [h2] at x1; rw [h3] at x2; rw [e] at x3
   simp only [Nat.add_zero, Nat.zero_mul, List.getElem_cons_zero] at x0 ⊢; exact TmAt.mk' x0 x1 x2 x3 ⟨a, c, rfl, h4⟩
 | k :: n :: s :: l :: rest, t :: ts, o, ⟨_, _, _, _, h5⟩, hc, i + 1, hi => by
   have := CellsOf.at_ (o + 4) h5 (fun j v hj => by rw [show o + 4 + j = o + (j + 4) by omega]; exact hc (j + 4) v (by simpa using hj)) i (by simpa using hi); rw [show o + (i + 1) * 4 = o + 4 + i * 4 by omega]; exact this
 | [], _ :: _, _, h, _, _, _ => h.elim
 | _ :: [], [], _, h, _, _, _ => h.elim
 | _ :: [], _ :: _, _, h, _, _, _ => h.elim
 | _ :: _ :: [], [], _, h, _, _, _ => h.elim
 | _ :: _ :: [], _ :: _, _, h, _, _, _ => h.elim
 | _ :: _ :: _ :: [], [], _, h, _, _, _ => h.elim
 | _ :: _ :: _ :: [], _ :: _, _, h, _, _, _ => h.elim
 | _ :: _ :: _ :: _ :: _, [], _, h, _, _, _ => h.elim
def OwnSl (w : World) (base : Nat) (P : Nat → Prop) (v : Value) (ts : List Tm) : Prop :=
 ∃ xs, w.ownsRow base 49 4 v ts.length xs ∧ CellsOf w (fun b => P b ∧ v.ownBlock ≠ some b ∧ b < w.heap.size) xs ts
theorem OwnSl.nil (w : World) (base : Nat) (P : Nat → Prop) : OwnSl w base P (.slice none 0 0) [] := ⟨[], World.ownsRow_nil w base _ _, trivial⟩
theorem OwnSl.form {w : World} {base : Nat} {P : Nat → Prop} {v : Value} {ts : List Tm} (h : OwnSl w base P v ts) : ∃ a c, v = .slice a ts.length c := by
 obtain ⟨xs, ⟨-, ⟨rfl, hn⟩ | ⟨g, cap, cur, e, -⟩⟩, -⟩ := h
 ·exact ⟨none, 0, by rw [hn]⟩
 ·exact ⟨_, _, e⟩
theorem OwnSl.low {w : World} {base : Nat} {P : Nat → Prop} {v : Value} {ts : List Tm} (h : OwnSl w base P v ts) : ∀ k, v.ownBlock = some k → base ≤ k ∧ k < w.heap.size := h.choose_spec.1.lt
theorem OwnSl.below {w w' : World} {base : Nat} {P : Nat → Prop} {v : Value} {ts : List Tm} (h : OwnSl w base P v ts) (hb : Below w.heap.size w w') : OwnSl w' base P v ts := by
 obtain ⟨xs, h1, h2⟩ := h; refine ⟨xs, ⟨h1.1, ?_⟩, h2.imp2 (fun b h => ⟨h.1, h.2.1, Nat.lt_of_lt_of_le h.2.2 hb.size⟩) fun b _ hlt => hb.block b hlt⟩; rcases h1.2 with h | ⟨g, cap, cur, e, h, hg, rest⟩
 ·exact .inl h
 ·exact .inr ⟨g, cap, cur, e, h, (hb.block g (Array.getElem?_eq_some_iff.1 hg).1).trans hg, rest⟩
theorem OwnSl.push {w w' : World} {base : Nat} {P : Nat → Prop} {v v' : Value} {ts : List Tm} {c0 c1 c2 c3 : Value} {t : Tm} {cs : Array Value} {xs : List Value} {T : TypeId} (h : OwnSl w base P v ts) (ht : IsTm w (fun b => P b ∧ v.ownBlock ≠ some b) (.agg #[c0, c1, c2, c3]) t)
 (hx : w.ownsRow base 49 4 v ts.length xs) (hown : w'.ownsRow base 49 4 v' (ts.length + 1) (xs ++ [c0, c1, c2, c3])) (hg : (w.alloc (.cells cs T (0, 0))).grownBy w' v.ownBlock) (hbase : base ≤ w.heap.size)
 (hv : ∀ k, v'.ownBlock = some k → v.ownBlock = some k ∨ w.heap.size ≤ k) :
 OwnSl w' base P v' (ts ++ [t]) ∧ Below base w w' := by
 obtain ⟨xs', h1, h2⟩ := h
 have ex : xs' = xs := by
  rcases h1.2 with ⟨rfl, hn⟩ | ⟨g, cap, cur, e, -, hg, -, -, -, ht⟩
  ·have a := h1.1; have b := hx.1; rw [hn] at a b; simp at a b; rw [a, b]
  ·rcases hx.2 with ⟨e', hn⟩ | ⟨g', cap', cur', e', -, hg', -, -, -, ht'⟩
   ·rw [e] at e'; cases e'
   ·rw [e] at e'
    simp only [Value.slice.injEq, Option.some.injEq, Addr.mk.injEq, and_true] at e'; obtain ⟨rfl, -, -⟩ := e'; rw [hg] at hg'; simp only [Option.some.injEq, Obj.cells.injEq, and_true] at hg'; rw [← ht, ← ht', hg']
 subst ex; have hblk : ∀ b, b < w.heap.size → v.ownBlock ≠ some b → w'.heap[b]? = w.heap[b]? := fun b hb hne => (hg.block b (by simp; omega) fun e => hne e.symm).trans (heap_alloc_old _ _ hb)
 have hsz : w.heap.size < w'.heap.size := by have := hg.size; simp at this; omega
 have hne : ∀ b, b < w.heap.size → v.ownBlock ≠ some b → v'.ownBlock ≠ some b := fun b hb h e => by
  rcases hv b e with h' | h'
  ·exact h h'
  ·omega
 have ht' : IsTm w (fun b => P b ∧ v.ownBlock ≠ some b ∧ b < w.heap.size) (.agg #[c0, c1, c2, c3]) t := ht.lt.imp (fun b h => ⟨h.1.1, h.1.2, h.2⟩) fun _ _ _ => rfl
 refine ⟨⟨xs' ++ [c0, c1, c2, c3], by simpa using hown, (h2.snoc ht').imp2 (fun b h => ⟨h.1, hne b h.2.2 h.2.1, by omega⟩) fun b h _ => hblk b h.2.2 h.2.1⟩, ?_⟩; exact ((Below.refl base w).alloc hbase _).grown hg (by simp; omega) fun k e => (h1.lt k e).1
theorem OwnSl.reads {w : World} {base : Nat} {P : Nat → Prop} {v : Value} {ts : List Tm} (h : OwnSl w base P v ts) : IsSl w (fun b => P b ∨ base ≤ b) v ts := by
 obtain ⟨xs, h1, h2⟩ := h; have h3 := h2.imp2 (P' := fun b => P b ∨ base ≤ b) (fun b h => .inl h.1) fun _ _ _ => rfl
 rcases h1.2 with ⟨rfl, hn⟩ | ⟨g, cap, cur, rfl, hb, -⟩
 ·obtain rfl : ts = [] := List.eq_nil_of_length_eq_zero hn
  exact IsSl.nil _ _ _ _
 ·refine IsSl.mk' fun i hi => ⟨g, 0, rfl, .inr hb, h3.at_ 0 (fun j v hj => ?_) i hi⟩
  have := h1.cells (g := g) rfl j v hj
  rwa [Addr.add_lit] at this
theorem four_news (w : World) (c0 c1 c2 c3 : Value) (T : TypeId) : ∀ j u, [c0, c1, c2, c3][j]? = some u → (w.alloc (.cells #[c0, c1, c2, c3] T (0, 0))).cell? (Addr.add ⟨w.heap.size, 0, none⟩ j) = some u := by
 intro j u h; rw [Addr.add_lit, cell_of_row _ _ _ _ _ _ (heap_alloc_new w _), Nat.zero_add]
 simpa using h
theorem wpList_push_term {w : World} {ops : Array Oper} {rest : List Oper} {o : Oper} {a : Act} {Q : Exit → Act → World → Prop} (hgd : o.guard = none) (s x : Operand)
 (ho : o.op = .call { callee := .builtin .append, args := #[s, x], argTypes := #[47, 47] }) (base : Nat) (P : Nat → Prop) (v : Value) (ts : List Tm) (c0 c1 c2 c3 : Value) (t : Tm) (c : Nat) (hs : a.eval s = v) (hown : OwnSl w base P v ts)
 {g : Nat} (hx : a.eval x = .slice (some ⟨g, 0, none⟩) 1 c) (hgs : g = w.heap.size) (ht : IsTm w (fun b => P b ∧ v.ownBlock ≠ some b) (.agg #[c0, c1, c2, c3]) t) (hlen : ts.length ≤ 1000000000) (hbase : base ≤ w.heap.size)
 (h : ∀ v' w', OwnSl w' base P v' (ts ++ [t]) → Below base w w' → w.grownBy w' v.ownBlock → (∀ k, v'.ownBlock = some k → v.ownBlock = some k ∨ w.heap.size ≤ k) → wpList Try.prog ops Q rest (a.put o.dst v') w') : wpList Try.prog ops Q (o :: rest) a (w.alloc (.cells #[c0, c1, c2, c3] 49 (0, 0))) := by
 subst hgs; obtain ⟨i0, hi, hz0, hz1, hz2⟩ := info_parts info_term; obtain ⟨xs, h1, h2⟩ := id hown
 have hone : ∀ u ∈ [c0, c1, c2, c3], u.oneCell' = true := by
  obtain ⟨q, r, e⟩ := ht.form; simp only [Value.agg.injEq, Array.mk.injEq, List.cons.injEq, and_true] at e; obtain ⟨rfl, rfl, rfl, rfl⟩ := e
  simp [Value.oneCell']
 refine Push.wpList_push hgd s x 47 ho base 49 i0 _ 4 56 Try.underlying47 hi hz0 hz1 hz2 rfl (by decide) v ts.length xs hs (h1.alloc _) ⟨w.heap.size, 0, none⟩ c [c0, c1, c2, c3] hx rfl (four_news w c0 c1 c2 c3 _) hone (by unfold maxLen; omega) (by omega) (by simp; omega) ?_; intro v' w' hown' hg hv; have hv' : ∀ k, v'.ownBlock = some k → v.ownBlock = some k ∨ w.heap.size ≤ k := fun k hk => (hv k hk).elim .inl fun h => .inr (by simp at h; omega)
 obtain ⟨r1, r2⟩ := hown.push ht h1 hown' hg hbase hv'; exact h v' w' r1 r2 ⟨hg.os, hg.tape, hg.output, by have := hg.size; simp at this; omega, fun k hk hne => (hg.block k (by simp; omega) hne).trans (heap_alloc_old _ _ hk)⟩ hv'
theorem OwnSl.rows {w : World} {base : Nat} {P : Nat → Prop} {v : Value} {ts : List Tm} {xs : List Value} (h : OwnSl w base P v ts) (hx : w.ownsRow base 49 4 v ts.length xs) : CellsOf w (fun b => P b ∧ v.ownBlock ≠ some b ∧ b < w.heap.size) xs ts := by
 obtain ⟨xs', h1, h2⟩ := h
 have ex : xs' = xs := by
  rcases h1.2 with ⟨rfl, hn⟩ | ⟨g, cap, cur, e, -, hg, -, -, -, ht⟩
  ·have a := h1.1; have b := hx.1; rw [hn] at a b; simp at a b; rw [a, b]
  ·rcases hx.2 with ⟨e', hn⟩ | ⟨g', cap', cur', e', -, hg', -, -, -, ht'⟩
   ·rw [e] at e'; cases e'
   ·rw [e] at e'
    simp only [Value.slice.injEq, Option.some.injEq, Addr.mk.injEq, and_true] at e'; obtain ⟨rfl, -, -⟩ := e'; rw [hg] at hg'; simp only [Option.some.injEq, Obj.cells.injEq, and_true] at hg'; rw [← ht, ← ht', hg']
 subst ex; exact h2
theorem wpList_push_at {w : World} {ops : Array Oper} {rest : List Oper} {o : Oper} {a : Act} {Q : Exit → Act → World → Prop} (hgd : o.guard = none) (s x : Operand)
 (ho : o.op = .call { callee := .builtin .append, args := #[s, x], argTypes := #[47, 47] }) (base : Nat) (P : Nat → Prop) (v : Value) (ts : List Tm) (c0 c1 c2 c3 : Value) (t : Tm) (g c : Nat) (T : TypeId) (fr : Nat × Nat) (hs : a.eval s = v) (hown : OwnSl w base P v ts)
 (hx : a.eval x = .slice (some ⟨g, 0, none⟩) 1 c) (hg : w.heap[g]? = some (.cells #[c0, c1, c2, c3] T fr)) (ht : IsTm w (fun b => P b ∧ v.ownBlock ≠ some b) (.agg #[c0, c1, c2, c3]) t) (hlen : ts.length ≤ 1000000000) (hbase : base ≤ w.heap.size)
 (h : ∀ v' w', OwnSl w' base P v' (ts ++ [t]) → Below base w w' → w.grownBy w' v.ownBlock → (∀ k, v'.ownBlock = some k → v.ownBlock = some k ∨ w.heap.size ≤ k) → wpList Try.prog ops Q rest (a.put o.dst v') w') : wpList Try.prog ops Q (o :: rest) a w := by
 obtain ⟨i0, hi, hz0, hz1, hz2⟩ := info_parts info_term; obtain ⟨xs, h1, h2⟩ := id hown
 have hone : ∀ u ∈ [c0, c1, c2, c3], u.oneCell' = true := by
  obtain ⟨q, r, e⟩ := ht.form; simp only [Value.agg.injEq, Array.mk.injEq, List.cons.injEq, and_true] at e; obtain ⟨rfl, rfl, rfl, rfl⟩ := e
  simp [Value.oneCell']
 refine Push.wpList_push hgd s x 47 ho base 49 i0 _ 4 56 Try.underlying47 hi hz0 hz1 hz2 rfl (by decide) v ts.length xs hs h1 ⟨g, 0, none⟩ c [c0, c1, c2, c3] hx rfl (fun j u hu => by rw [Addr.add_lit, cell_of_row w g _ _ _ _ hg, Nat.zero_add]; simpa using hu) hone (by unfold maxLen; omega) (by omega) hbase ?_; intro v' w' hown' hgr hv; have hsz : w.heap.size ≤ w'.heap.size := hgr.size; have hblk : ∀ b, b < w.heap.size → v.ownBlock ≠ some b → w'.heap[b]? = w.heap[b]? := fun b hb hne => hgr.block b hb fun e => hne e.symm
 have hne : ∀ b, b < w.heap.size → v.ownBlock ≠ some b → v'.ownBlock ≠ some b := fun b hb h e => by
  rcases hv b e with h' | h'
  ·exact h h'
  ·omega
 have ht' : IsTm w (fun b => P b ∧ v.ownBlock ≠ some b ∧ b < w.heap.size) (.agg #[c0, c1, c2, c3]) t := ht.lt.imp (fun b h => ⟨h.1.1, h.1.2, h.2⟩) fun _ _ _ => rfl
 refine h v' w' ⟨xs ++ [c0, c1, c2, c3], by simpa using hown', ((hown.rows h1).snoc ht').imp2 (fun b h => ⟨h.1, hne b h.2.2 h.2.1, by omega⟩) fun b h _ => hblk b h.2.2 h.2.1⟩ ?_ hgr hv; exact (Below.refl base w).grown hgr hbase fun k e => (h1.lt k e).1
end Go.Proofs.Ytcbijikalfodnaa.Tms
namespace Go.Proofs.Ytcbijikalfodnaa.Tms
open Go Go.Proofs.Ytcbijikalfodnaa.Maps Go.Proofs.Ytcbijikalfodnaa.Reg Go.RowKit
theorem makes_at {t : Tm} {P : Nat → Prop} {w wr : World} {g base : Nat} {v : Value} {cs : Array Value} (it : IsTm wr (fun b => (P b ∧ b < w.heap.size) ∨ base ≤ b) v t) (hb : Below w.heap.size w wr) (h1 : w.heap.size ≤ g) (h2 : g < base) :
 MakesTm P t w (.returned v) (wr.setRow g cs) := by
 refine ⟨v, rfl, it.imp (fun b h => ?_) fun b h _ => setRow_other _ _ _ _ ?_, hb.trans ⟨rfl, rfl, rfl, by simp, fun k hk => setRow_other _ _ _ _ (by omega)⟩⟩
 ·rcases h with h | h
  ·exact .inl h.1
  ·exact .inr (by omega)
 ·rcases h with h | h
  ·have := h.2; omega
  ·omega
structure FmCtx (w : World) (n f : ByteArray) (wh wi : Bool) (P : Nat → Prop) (t : Tm) (a : Option Addr) (cap b7 base : Nat) (u : World) : Prop where
 word : u.cell? ⟨b7, 0, none⟩ = some (.string n) ∧ u.cell? ⟨b7, 1, none⟩ = some (.string f) ∧ u.cell? ⟨b7, 2, none⟩ = some (.bool wh) ∧ u.cell? ⟨b7, 3, none⟩ = some (.bool wi)
 box : u.cell? ⟨w.heap.size, 0, none⟩ = some (.int .i64 t.k) ∧ u.cell? ⟨w.heap.size, 1, none⟩ = some (.int .i64 t.n) ∧ u.cell? ⟨w.heap.size, 2, none⟩ = some (.string t.s) ∧ u.cell? ⟨w.heap.size, 3, none⟩ = some (.slice a t.args.length cap)
 res : u.heap[w.heap.size + 1]? = some (.cells #[.int .i64 0, .int .i64 0, .string ⟨#[]⟩, .slice none 0 0] 49 (0, 0))
 it : IsTm u (fun b => P b ∧ b < w.heap.size) (.agg #[.int .i64 t.k, .int .i64 t.n, .string t.s, .slice a t.args.length cap]) t
 bel : Below w.heap.size w u
 low : w.heap.size + 1 < b7 ∧ b7 < base ∧ base ≤ u.heap.size
theorem FmCtx.on {w : World} {n f : ByteArray} {wh wi : Bool} {P : Nat → Prop} {t : Tm} {a : Option Addr} {cap b7 base : Nat} {u u' : World} (h : FmCtx w n f wh wi P t a cap b7 base u) (hb : Below base u u') : FmCtx w n f wh wi P t a cap b7 base u' := by
 have hl := h.low; have c7 : ∀ o, u'.cell? ⟨b7, o, none⟩ = u.cell? ⟨b7, o, none⟩ := fun o => hb.cell (p := ⟨b7, o, none⟩) (by show b7 < base; omega)
 have cB : ∀ o, u'.cell? ⟨w.heap.size, o, none⟩ = u.cell? ⟨w.heap.size, o, none⟩ := fun o => hb.cell (p := ⟨w.heap.size, o, none⟩) (by show w.heap.size < base; omega)
 exact ⟨⟨(c7 _).trans h.word.1, (c7 _).trans h.word.2.1, (c7 _).trans h.word.2.2.1, (c7 _).trans h.word.2.2.2⟩, ⟨(cB _).trans h.box.1, (cB _).trans h.box.2.1, (cB _).trans h.box.2.2.1, (cB _).trans h.box.2.2.2⟩, (hb.block _ (by omega)).trans h.res,
  h.it.imp (fun _ h => h) fun b h _ => hb.block b (by have := h.2; omega), h.bel.trans (hb.mono (by omega)), ⟨hl.1, hl.2.1, Nat.le_trans hl.2.2 hb.size⟩⟩
theorem sl_of_cells {w : World} {P : Nat → Prop} {g n cap : Nat} {cs : List Value} {T : TypeId} {fr : Nat × Nat} {ts : List Tm} (h : w.heap[g]? = some (.cells cs.toArray T fr)) (hc : CellsOf w P cs ts) (hn : ts.length = n) (hP : P g) : IsSl w P (.slice (some ⟨g, 0, none⟩) n cap) ts := by
 subst hn; refine IsSl.mk' fun i hi => ⟨g, 0, rfl, hP, hc.at_ 0 (fun j v hj => ?_) i hi⟩
 rw [cell_of_row w g _ _ _ _ h, Nat.zero_add]
 simpa using hj
theorem CellsOf.cons {w : World} {P : Nat → Prop} {c0 c1 c2 c3 : Value} {t : Tm} {cs : List Value} {ts : List Tm} (ht : IsTm w P (.agg #[c0, c1, c2, c3]) t) (h : CellsOf w P cs ts) : CellsOf w P (c0 :: c1 :: c2 :: c3 :: cs) (t :: ts) := by
 obtain ⟨a, c, e, h'⟩ := ht; simp only [Value.agg.injEq, Array.mk.injEq, List.cons.injEq, and_true] at e; obtain ⟨rfl, rfl, rfl, rfl⟩ := e; exact ⟨rfl, rfl, rfl, ⟨a, c, rfl, h'⟩, h⟩
structure Rz (w : World) (r base : Nat) (u : World) : Prop where
 res : u.heap[r]? = some (.cells #[.int .i64 0, .int .i64 0, .string ⟨#[]⟩, .slice none 0 0] 49 (0, 0))
 bel : Below w.heap.size w u
 low : w.heap.size ≤ r ∧ r < base ∧ base ≤ u.heap.size
theorem Rz.on {w : World} {r base : Nat} {u u' : World} (h : Rz w r base u) (hb : Below base u u') : Rz w r base u' :=
 ⟨(hb.block _ h.low.2.1).trans h.res, h.bel.trans (hb.mono (by have := h.low; omega)), h.low.1, h.low.2.1, Nat.le_trans h.low.2.2 hb.size⟩
theorem Rz.next {w : World} {r base : Nat} {u u' : World} (h : Rz w r base u) (hb : Below u.heap.size u u') : Rz w r base u' := h.on (hb.mono h.low.2.2)
theorem Rz.first (w : World) : Rz w w.heap.size (w.heap.size + 1) (w.alloc (.cells #[.int .i64 0, .int .i64 0, .string ⟨#[]⟩, .slice none 0 0] 49 (0, 0))) :=
 ⟨heap_alloc_new _ _, (Below.refl _ _).alloc (Nat.le_refl _) _, Nat.le_refl _, Nat.lt_succ_self _, by simp⟩
theorem Rz.row {w : World} {r base : Nat} {u : World} (h : Rz w r base u) (o : Obj) : Rz w r base (u.alloc o) ∧ (u.alloc o).heap[u.heap.size]? = some o ∧ base ≤ u.heap.size :=
 ⟨h.next ((Below.refl _ _).alloc (Nat.le_refl _) _), heap_alloc_new _ _, h.low.2.2⟩
abbrev Low (P : Nat → Prop) (w : World) (base : Nat) : Nat → Prop := fun b => (P b ∧ b < w.heap.size) ∨ base ≤ b
theorem IsSl.cells {w : World} {P : Nat → Prop} {a : Option Addr} {n cap : Nat} {l : List Tm} (h : IsSl w P (.slice a n cap) l) (hn : 0 < l.length) : ∃ b off, a = some ⟨b, off, none⟩ ∧ b < w.heap.size ∧ P b ∧ ∀ i (hi : i < l.length), TmAt w P b (off + i * 4) l[i] := by
 obtain ⟨a', c', e, h'⟩ := id h; obtain ⟨rfl, -, -⟩ := Value.slice.inj e; obtain ⟨b, off, rfl, hp, ht⟩ := argsFrom_at h' 0 hn; obtain ⟨_, _, x0, -⟩ := ht.read; refine ⟨b, off, rfl, World.block_lt_of_cell? _ _ x0, hp, fun i hi => ?_⟩; obtain ⟨b', off', e', -, ht'⟩ := argsFrom_at h' i hi; simp only [Option.some.injEq, Addr.mk.injEq, and_true] at e'; obtain ⟨rfl, rfl⟩ := e'; exact ht'
def Cells : List (Nat × Nat × Value) → World → Prop
 | [], _ => True
 | x :: l, u => (u.cell? ⟨x.1, x.2.1, none⟩ = some x.2.2) ∧ Cells l u
theorem Cells.below {w w' : World} (hb : Below w.heap.size w w') : ∀ {l : List (Nat × Nat × Value)}, Cells l w → Cells l w'
 | [], _ => trivial
 | x :: _, h => ⟨(hb.cell (p := ⟨x.1, x.2.1, none⟩) (World.block_lt_of_cell? _ _ h.1)).trans h.1, Cells.below hb h.2⟩
end Go.Proofs.Ytcbijikalfodnaa.Tms
