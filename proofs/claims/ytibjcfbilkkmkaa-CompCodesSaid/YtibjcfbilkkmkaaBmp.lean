
/-
  A map of numbers to true, by its keys in their order: a store, its length, a new one. Plain laws over any program.
-/
import Derived.Test.YtibjcfbilkkmkaaImp
namespace Go.Proofs.Ytibjcfbilkkmkaa.Maps
open Go Go.RowKit Go.Instr
set_option linter.unusedVariables false

def kvB (k : Int) : Value × Value := (.int .i64 k, .bool true)
/-- block b is a map of these keys, each to true -/
def BMap (w : World) (b : Nat) (ks : List Int) : Prop := ∃ es c, w.heap[b]? = some (.map es c) ∧ es.toList.map kvE = ks.map kvB
/-- a key more, if it is not there -/
def addB (ks : List Int) (k : Int) : List Int := if k ∈ ks then ks else ks ++ [k]
theorem BMap.below {w w' : World} {b : Nat} {l : List Int} (h : BMap w b l) (hk : w'.heap[b]? = w.heap[b]?) : BMap w' b l := by
  obtain ⟨es, c, h1, h2⟩ := h
  exact ⟨es, c, hk.trans h1, h2⟩
theorem BMap.lt {w : World} {b : Nat} {l : List Int} (h : BMap w b l) : b < w.heap.size := by
  obtain ⟨es, c, h1, h2⟩ := h
  exact (Array.getElem?_eq_some_iff.1 h1).1
theorem BMap.made (w : World) : BMap (w.alloc (.map #[] 0)) w.heap.size [] := ⟨#[], 0, heap_alloc_new w _, rfl⟩
theorem find_keys (k : IntKind) (n : Int) : ∀ (es : List MapEntry) (l : List Int) (j : Nat), es.map kvE = l.map kvB →
    (n ∉ l ∧ findNow (.int k) (.int .i64 n) es j = some none) ∨
    ∃ i, n ∈ l ∧ findNow (.int k) (.int .i64 n) es j = some (some (j + i, .bool true)) ∧ (es[i]?).map (·.key) = some (.int .i64 n) ∧ (es.modify i fun e => { e with key := .int .i64 n, val := .bool true }).map kvE = l.map kvB
  | [], [], j, _ => .inl ⟨by simp, rfl⟩
  | [], _ :: _, _, h => by simp at h
  | _ :: _, [], _, h => by simp at h
  | e :: es, p :: l, j, h => by
    simp only [List.map_cons, List.cons.injEq] at h
    obtain ⟨h1, h2⟩ := h
    simp only [kvE, kvB, Prod.mk.injEq] at h1
    obtain ⟨hk, hv⟩ := h1
    by_cases e1 : n = p
    · right
      refine ⟨0, by simp [e1], ?_, by simp [hk, e1], ?_⟩
      · simp [findNow, sameNow, hk, hv, e1]
      · simp only [List.modify_zero_cons, List.map_cons, h2]
        simp [kvE, kvB, e1]
    · have hb : (n == p) = false := by simpa using e1
      rcases find_keys k n es l (j + 1) h2 with ⟨g1, g2⟩ | ⟨i, g1, g2, g3, g4⟩
      · left
        refine ⟨by simp [e1, g1], ?_⟩
        simp only [findNow, sameNow, hk, if_true, hb]
        exact g2
      · right
        refine ⟨i + 1, by simp [g1], ?_, by simpa using g3, ?_⟩
        · simp only [findNow, sameNow, hk, if_true, hb]
          rw [g2, show j + 1 + i = j + (i + 1) by omega]
        · simp only [List.modify_succ_cons, List.map_cons, g4]
          simp [kvE, kvB, hk, hv]
theorem wpList_bmap_set {P : Program} {w : World} {ops : Array Oper} {rest : List Oper} {o : Oper} {a : Act} {Q : Exit → Act → World → Prop} (hgd : o.guard = none) (t : TypeId) (m k x : Operand) (ho : o.op = .mapUpdate t m k x) (kt et : TypeId) (kk : IntKind)
    (h : P.underlying t = some (.map kt et)) (hk : P.underlying kt = some (.int kk)) (b : Nat) (l : List Int) (hm : a.eval m = .map (some b)) (hb : BMap w b l) (n : Int) (hn : a.eval k = .int .i64 n) (hv : a.eval x = .bool true)
    (hK : ∀ w', BMap w' b (addB l n) → w.grownBy w' (some b) → wpList P ops Q rest (a.put o.dst undef) w') : wpList P ops Q (o :: rest) a w := by
  obtain ⟨es, c, h1, h2⟩ := hb
  have hlt := (Array.getElem?_eq_some_iff.1 h1).1
  refine wpList_plain hgd fun K hK' => ?_
  rcases find_keys kk n es.toList l 0 h2 with ⟨g1, g2⟩ | ⟨i, g1, g2, g3, g4⟩
  · have hrun := run_insert_new (P := P) w t kt et _ h hk rfl b (.int .i64 n) (.bool true) es c h1 g2
    unfold Oper.wp
    simp [execOp, ho, hm, hn, hv, hrun, Result.andThen]
    refine hK' _ _ (hK _ ⟨_, _, setObj'_at _ _ _ hlt, ?_⟩ (setObj'_grown _ _ _))
    unfold addB
    rw [if_neg g1]
    simp [h2, kvE, kvB]
  · rw [Nat.zero_add] at g2
    have hrun := run_insert_old (P := P) w t kt et kk h hk b n (.bool true) _ i es c h1 g2 (by simpa using g3)
    unfold Oper.wp
    simp [execOp, ho, hm, hn, hv, hrun, Result.andThen]
    refine hK' _ _ (hK _ ⟨_, _, setObj'_at _ _ _ hlt, ?_⟩ (setObj'_grown _ _ _))
    rw [Array.toList_modify]
    unfold addB
    rw [if_pos g1]
    exact g4
theorem wpList_bmap_len {P : Program} {w : World} {ops : Array Oper} {rest : List Oper} {o : Oper} {a : Act} {Q : Exit → Act → World → Prop} (hgd : o.guard = none) (m : Operand) (t : TypeId) (ho : o.op = .call { callee := .builtin .len, args := #[m], argTypes := #[t] })
    (kt et : TypeId) (h : P.underlying t = some (.map kt et)) (b : Nat) (l : List Int) (hm : a.eval m = .map (some b)) (hb : BMap w b l)
    (hK : wpList P ops Q rest (a.put o.dst (.int .i64 l.length)) w) : wpList P ops Q (o :: rest) a w := by
  obtain ⟨es, c, h1, h2⟩ := hb
  have hsz : es.size = l.length := by have := congrArg List.length h2; simpa using this
  refine wpList_plain hgd fun K hK' => ?_
  have hrun : (Builtin.len_ #[t] o.type #[.map (some b)]).run P w = .ok (.int .i64 l.length) w := by
    unfold Builtin.len_
    simp [Sem.run_bind, run_underlying h, getObj, Sem.run, h1, hsz]
    rfl
  unfold Oper.wp
  simp [execOp, ho, resolve, invoke, builtin, hm, hrun, Result.andThen]
  exact hK' _ _ hK
end Go.Proofs.Ytibjcfbilkkmkaa.Maps
