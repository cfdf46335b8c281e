
/-
  fault.own: a term copied into memory of its own reads as it read. Plain lemmas on readings, then the walk.
-/
import Derived.Test.YtokhiolimioicaaFlt
import Derived.Deep.LoopGhost
import Derived.OwnWalk
import Derived.Laws.CopyOwn
namespace Go.Proofs.Ytokhiolimioicaa.Tms
open Go Go.RowKit Go.Proofs.Ytokhiolimioicaa.Reg

theorem argsFrom_at {w : World} {P : Nat → Prop} {a : Option Addr} {ts : List Tm} (h : ArgsFrom w P a 0 ts) (i : Nat) (hi : i < ts.length) : ∃ b off, a = some ⟨b, off, none⟩ ∧ P b ∧ TmAt w P b (off + i * 4) ts[i] := by
  have := argsFrom_iff.1 h i hi
  simpa using this
theorem argsFrom_mk {w : World} {P : Nat → Prop} {a : Option Addr} {ts : List Tm} (h : ∀ i (hi : i < ts.length), ∃ b off, a = some ⟨b, off, none⟩ ∧ P b ∧ TmAt w P b (off + i * 4) ts[i]) : ArgsFrom w P a 0 ts :=
  argsFrom_iff.2 fun i hi => by simpa using h i hi

/-- what lies at a place is one term -/
theorem tmAt_det {w : World} {P P' : Nat → Prop} (N : Nat) : ∀ (t t' : Tm) (b o : Nat), t.size ≤ N → TmAt w P b o t → TmAt w P' b o t' → t = t' := by
  induction N with
  | zero => intro t t' b o hN; have := size_pos t; omega
  | succ N ih =>
    intro t t' b o hN h h'
    obtain ⟨k, n, s, ts⟩ := t
    obtain ⟨k', n', s', ts'⟩ := t'
    unfold TmAt at h h'
    obtain ⟨a, c, h0, h1, h2, h3, h4⟩ := h
    obtain ⟨a', c', h0', h1', h2', h3', h4'⟩ := h'
    rw [h0] at h0'; rw [h1] at h1'; rw [h2] at h2'; rw [h3] at h3'
    simp only [Option.some.injEq, Value.int.injEq, Value.string.injEq, Value.slice.injEq, true_and] at h0' h1' h2' h3'
    obtain ⟨rfl, hl, rfl⟩ := h3'
    subst h0' h1' h2'
    congr 1
    refine List.ext_getElem hl fun i hi hi' => ?_
    obtain ⟨b1, o1, e1, -, x1⟩ := argsFrom_at h4 i hi
    obtain ⟨b2, o2, e2, -, x2⟩ := argsFrom_at h4' i hi'
    rw [e1] at e2
    simp only [Option.some.injEq, Addr.mk.injEq, and_true] at e2
    obtain ⟨rfl, rfl⟩ := e2
    exact ih _ _ _ _ (by have := size_mem hi; simp only [Tm.size] at hN; omega) x1 x2
theorem argsFrom_det {w : World} {P P' : Nat → Prop} {a : Option Addr} {ts ts' : List Tm} (h : ArgsFrom w P a 0 ts) (h' : ArgsFrom w P' a 0 ts') (hl : ts.length = ts'.length) : ts = ts' := by
  refine List.ext_getElem hl fun i hi hi' => ?_
  obtain ⟨b1, o1, e1, -, x1⟩ := argsFrom_at h i hi
  obtain ⟨b2, o2, e2, -, x2⟩ := argsFrom_at h' i hi'
  rw [e1] at e2
  simp only [Option.some.injEq, Addr.mk.injEq, and_true] at e2
  obtain ⟨rfl, rfl⟩ := e2
  exact tmAt_det _ _ _ _ _ (Nat.le_refl _) x1 x2

/-- one cell, that leads to terms, is turned to lead to the same terms elsewhere: all readings stay -/
theorem redirect {w w' : World} {P : Nat → Prop} {g q n : Nat} {a1 a2 : Option Addr} {c1 c2 : Nat} {us : List Tm} (h1 : w.cell? ⟨g, q, none⟩ = some (.slice a1 n c1)) (h2 : w'.cell? ⟨g, q, none⟩ = some (.slice a2 n c2))
    (hs : ∀ b o, ¬ (b = g ∧ o = q) → w'.cell? ⟨b, o, none⟩ = w.cell? ⟨b, o, none⟩) (hn : us.length = n) (ho : ArgsFrom w P a1 0 us) (hu : ArgsFrom w P a2 0 us) (N : Nat) :
    ∀ (t : Tm) (b o : Nat), t.size ≤ N → TmAt w P b o t → TmAt w' P b o t := by
  induction N with
  | zero => intro t b o hN; have := size_pos t; omega
  | succ N ih =>
    intro t b o hN h
    obtain ⟨k, m, s, ts⟩ := t
    unfold TmAt at h ⊢
    obtain ⟨a, c, x0, x1, x2, x3, x4⟩ := h
    have ne0 : ¬ (b = g ∧ o = q) := fun ⟨e, e'⟩ => by subst e e'; rw [x0] at h1; cases h1
    have ne1 : ¬ (b = g ∧ o + 1 = q) := fun ⟨e, e'⟩ => by subst e e'; rw [x1] at h1; cases h1
    have ne2 : ¬ (b = g ∧ o + 2 = q) := fun ⟨e, e'⟩ => by subst e e'; rw [x2] at h1; cases h1
    have up : ∀ a', ArgsFrom w P a' 0 ts → ArgsFrom w' P a' 0 ts := fun a' ha => argsFrom_mk fun i hi => by
      obtain ⟨b', o', e, hp, x⟩ := argsFrom_at ha i hi
      exact ⟨b', o', e, hp, ih _ _ _ (by have := size_mem hi; simp only [Tm.size] at hN; omega) x⟩
    by_cases e : b = g ∧ o + 3 = q
    · obtain ⟨rfl, rfl⟩ := e
      rw [x3] at h1
      simp only [Option.some.injEq, Value.slice.injEq] at h1
      obtain ⟨rfl, hl, rfl⟩ := h1
      obtain rfl := argsFrom_det x4 ho (by omega)
      exact ⟨a2, c2, (hs _ _ ne0).trans x0, (hs _ _ ne1).trans x1, (hs _ _ ne2).trans x2, by rw [h2, hl], up _ hu⟩
    · exact ⟨a, c, (hs _ _ ne0).trans x0, (hs _ _ ne1).trans x1, (hs _ _ ne2).trans x2, (hs _ _ e).trans x3, up _ x4⟩

theorem cell_setCell_ne {w : World} {g q : Nat} {u : Value} {b o : Nat} (h : ¬ (b = g ∧ o = q)) : (w.setCell ⟨g, q, none⟩ u).cell? ⟨b, o, none⟩ = w.cell? ⟨b, o, none⟩ := by
  unfold World.cell? World.setCell
  simp only [Array.getElem?_modify]
  by_cases hb : g = b
  · subst hb
    rw [if_pos rfl]
    cases hg : w.heap[g]? with
    | none => simp
    | some x =>
      cases x <;> simp
      rw [Array.getElem?_setIfInBounds, if_neg (by intro e; exact h ⟨rfl, e.symm⟩)]
  · rw [if_neg hb]
theorem cell_setCell_eq {w : World} {g q : Nat} {u x : Value} (h : w.cell? ⟨g, q, none⟩ = some x) : (w.setCell ⟨g, q, none⟩ u).cell? ⟨g, q, none⟩ = some u := by
  unfold World.cell? at h
  unfold World.cell? World.setCell
  simp only [Array.getElem?_modify, if_true]
  cases hg : w.heap[g]? with
  | none => simp [hg] at h
  | some y =>
    cases y <;> simp [hg] at h ⊢
    obtain ⟨h1, -⟩ := Array.getElem?_eq_some_iff.1 h
    simp [h1]
/-- copy of a whole row of elements of whatever size into a new row -/
theorem run_copy_all {P : Program} (w : World) (dT sT ty elem : TypeId) (k n g dc sc : Nat) (a : Addr) (cur : Array Value) (t : TypeId) (cs : List Value) (hu : P.underlying dT = some (.slice elem)) (hs : (P.info? elem).map (·.size) = some k)
    (hg : w.heap[g]? = some (.cells cur t (0, 0))) (hn : cs.length = n * k) (hc : cur.size = n * k) (hsrc : ∀ j v, cs[j]? = some v → w.cell? (a.add j) = some v) (h1 : ∀ v ∈ cs, v.oneCell' = true) :
    (Builtin.copy_ #[dT, sT] ty #[.slice (some ⟨g, 0, none⟩) n dc, .slice (some a) n sc]).run P w = .ok (goInt n) (w.setRow g cs.toArray) := by
  have hl := run_loadCells_list (P := P) w a cs hsrc
  have hst := run_storeCells_at P g 0 t cs 0 cur w hg (by omega) h1
  have hd : cur.toList.drop cs.length = [] := by rw [List.drop_eq_nil_iff]; simp; omega
  simp only [Nat.add_zero, Nat.zero_add, List.take_zero, List.nil_append, hd, List.append_nil] at hst
  cases hq : P.info? elem with
  | none => simp [hq] at hs
  | some i =>
    have hi : i.size = k := by simpa [hq] using hs
    simp [Builtin.copy_, run_underlying hu, Builtin.lenOf, Builtin.firstCells, sizeOf, typeInfo, hq, hi, ← hn, hl, hst]
theorem wpList_copy_all {P : Program} {w : World} {ops : Array Oper} {rest : List Oper} {o : Oper} {a : Act} {Q : Exit → Act → World → Prop} (hgd : o.guard = none) (d s : Operand) (dT sT : TypeId)
    (ho : o.op = .call { callee := .builtin .copy, args := #[d, s], argTypes := #[dT, sT] }) (elem : TypeId) (k n g dc sc : Nat) (ad : Addr) (hu : P.underlying dT = some (.slice elem)) (hs : (P.info? elem).map (·.size) = some k)
    (hd : a.eval d = .slice (some ⟨g, 0, none⟩) n dc) (hx : a.eval s = .slice (some ad) n sc) (cur : Array Value) (t : TypeId) (cs : List Value) (hg : w.heap[g]? = some (.cells cur t (0, 0))) (hn : cs.length = n * k) (hc : cur.size = n * k)
    (hsrc : ∀ j v, cs[j]? = some v → w.cell? (ad.add j) = some v) (h1 : ∀ v ∈ cs, v.oneCell' = true) (h : wpList P ops Q rest (a.put o.dst (goInt n)) (w.setRow g cs.toArray)) : wpList P ops Q (o :: rest) a w := by
  refine wpList_plain hgd fun K hK => ?_
  have hrun := run_copy_all (P := P) w dT sT o.type elem k n g dc sc ad cur t cs hu hs hg hn hc hsrc h1
  unfold Oper.wp
  simp [execOp, ho, resolve, invoke, builtin, hd, hx, hrun, Result.andThen]
  exact hK _ _ h

/-- the cells of a row of terms that lie one behind the other: for each its four -/
theorem row_cells {w : World} {P : Nat → Prop} {b off : Nat} {ts : List Tm} (h : ∀ i (hi : i < ts.length), TmAt w P b (off + i * 4) ts[i]) :
    ∃ cs : List Value, cs.length = ts.length * 4 ∧ (∀ j v, cs[j]? = some v → w.cell? ⟨b, off + j, none⟩ = some v) ∧ (∀ v ∈ cs, v.oneCell' = true) := by
  induction ts generalizing off with
  | nil => exact ⟨[], by simp, by simp, by simp⟩
  | cons t ts ih =>
    obtain ⟨cs, hl, hc, h1⟩ := ih (off := off + 4) (fun i hi => by have := h (i + 1) (by simpa using hi); simpa [Nat.add_assoc, Nat.add_mul, Nat.add_comm 4] using this)
    have h0 := h 0 (by simp)
    simp only [Nat.zero_mul, Nat.add_zero, List.getElem_cons_zero] at h0
    obtain ⟨a, c, x0, x1, x2, x3, -, -⟩ := h0.read
    refine ⟨[.int .i64 t.k, .int .i64 t.n, .string t.s, .slice a t.args.length c] ++ cs, by simp [hl]; omega, ?_, ?_⟩
    · intro j v hj
      match j with
      | 0 => simp at hj; subst hj; exact x0
      | 1 => simp at hj; subst hj; exact x1
      | 2 => simp at hj; subst hj; exact x2
      | 3 => simp at hj; subst hj; exact x3
      | j + 4 =>
        have := hc j v (by simpa using hj)
        rw [show off + (j + 4) = off + 4 + j by omega]
        exact this
    · intro v hv
      simp only [List.mem_append, List.mem_cons, List.not_mem_nil, or_false] at hv
      rcases hv with (rfl | rfl | rfl | rfl) | hv
      · rfl
      · rfl
      · rfl
      · rfl
      · exact h1 v hv

end Go.Proofs.Ytokhiolimioicaa.Tms
