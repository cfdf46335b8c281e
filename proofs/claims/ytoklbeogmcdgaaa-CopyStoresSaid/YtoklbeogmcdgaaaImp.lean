
/-
  A map of numbers to numbers, by what its entries say in their order: a look, a store, its length, a new one. Plain laws over any program.
-/
import Derived.Test.YtoklbeogmcdgaaaBas
namespace Go.Proofs.Ytoklbeogmcdgaaa.Maps
open Go Go.RowKit Go.Instr
set_option linter.unusedVariables false

/-- what a number is told as -/
def mget : List (Int × Int) → Int → Option Int
  | [], _ => none
  | p :: l, n => if n = p.1 then some p.2 else mget l n
/-- a number is told as this from now on -/
def mset (n v : Int) : List (Int × Int) → List (Int × Int)
  | [] => [(n, v)]
  | p :: l => if n = p.1 then (p.1, v) :: l else p :: mset n v l
def kvE (e : MapEntry) : Value × Value := (e.key, e.val)
def kvI (p : Int × Int) : Value × Value := (.int .i64 p.1, .int .i64 p.2)
/-- block b is a map of these entries -/
def IMap (w : World) (b : Nat) (l : List (Int × Int)) : Prop := ∃ es c, w.heap[b]? = some (.map es c) ∧ es.toList.map kvE = l.map kvI

theorem mget_mset_same (n v : Int) : ∀ l, mget (mset n v l) n = some v
  | [] => by simp [mset, mget]
  | p :: l => by
    unfold mset
    by_cases h : n = p.1
    · rw [if_pos h]; simp [mget, h]
    · rw [if_neg h]; simp [mget, h, mget_mset_same n v l]
theorem mget_mset_other (n v m : Int) (hm : m ≠ n) : ∀ l, mget (mset n v l) m = mget l m
  | [] => by simp [mset, mget, hm]
  | p :: l => by
    unfold mset
    by_cases h : n = p.1
    · rw [if_pos h]; simp only [mget]; rw [if_neg fun e => hm (e.trans h.symm), if_neg fun e => hm (e.trans h.symm)]
    · rw [if_neg h]; simp only [mget]; by_cases h2 : m = p.1
      · rw [if_pos h2, if_pos h2]
      · rw [if_neg h2, if_neg h2, mget_mset_other n v m hm l]
theorem mset_new {n v : Int} : ∀ {l}, mget l n = none → mset n v l = l ++ [(n, v)]
  | [], _ => rfl
  | p :: l, h => by
    simp only [mget] at h
    split at h
    · cases h
    · rename_i hne
      simp only [mset, if_neg hne, List.cons_append]
      rw [mset_new h]
theorem mset_len_old {n v x : Int} : ∀ {l}, mget l n = some x → (mset n v l).length = l.length
  | p :: l, h => by
    simp only [mget] at h
    split at h
    · rename_i e; simp [mset, e]
    · rename_i hne
      simp only [mset, if_neg hne, List.length_cons]
      rw [mset_len_old h]
theorem mset_len_le (n v : Int) : ∀ l, (mset n v l).length ≤ l.length + 1
  | [] => by simp [mset]
  | p :: l => by
    simp only [mset]
    split
    · simp
    · have := mset_len_le n v l; simp; omega

theorem find_list (k : IntKind) (n : Int) : ∀ (es : List MapEntry) (l : List (Int × Int)) (j : Nat), es.map kvE = l.map kvI →
    (mget l n = none ∧ findNow (.int k) (.int .i64 n) es j = some none) ∨
    ∃ v i, mget l n = some v ∧ findNow (.int k) (.int .i64 n) es j = some (some (j + i, .int .i64 v)) ∧ (es[i]?).map (·.key) = some (.int .i64 n) ∧ ∀ x, (es.modify i fun e => { e with key := .int .i64 n, val := .int .i64 x }).map kvE = (mset n x l).map kvI
  | [], [], j, _ => .inl ⟨rfl, rfl⟩
  | [], _ :: _, _, h => by simp at h
  | _ :: _, [], _, h => by simp at h
  | e :: es, p :: l, j, h => by
    simp only [List.map_cons, List.cons.injEq] at h
    obtain ⟨h1, h2⟩ := h
    simp only [kvE, kvI, Prod.mk.injEq] at h1
    obtain ⟨hk, hv⟩ := h1
    by_cases e1 : n = p.1
    · right
      refine ⟨p.2, 0, by simp [mget, e1], ?_, by simp [hk, e1], fun x => ?_⟩
      · simp [findNow, sameNow, hk, hv, e1]
      · simp only [List.modify_zero_cons, List.map_cons, mset, if_pos e1, h2]
        simp [kvE, kvI, e1]
    · have hb : (n == p.1) = false := by simpa using e1
      rcases find_list k n es l (j + 1) h2 with ⟨g1, g2⟩ | ⟨v, i, g1, g2, g3, g4⟩
      · left
        refine ⟨by simp [mget, e1, g1], ?_⟩
        simp only [findNow, sameNow, hk, if_true, hb]
        exact g2
      · right
        refine ⟨v, i + 1, by simp [mget, e1, g1], ?_, by simpa using g3, fun x => ?_⟩
        · simp only [findNow, sameNow, hk, if_true, hb]
          rw [g2, show j + 1 + i = j + (i + 1) by omega]
        · simp only [List.modify_succ_cons, List.map_cons, mset, if_neg e1, g4 x]
          simp [kvE, kvI, hk, hv]

theorem IMap.below {w w' : World} {b : Nat} {l : List (Int × Int)} (h : IMap w b l) (hk : w'.heap[b]? = w.heap[b]?) : IMap w' b l := by
  obtain ⟨es, c, h1, h2⟩ := h
  exact ⟨es, c, hk.trans h1, h2⟩
theorem IMap.lt {w : World} {b : Nat} {l : List (Int × Int)} (h : IMap w b l) : b < w.heap.size := by
  obtain ⟨es, c, h1, h2⟩ := h
  exact (Array.getElem?_eq_some_iff.1 h1).1
theorem IMap.made (w : World) : IMap (w.alloc (.map #[] 0)) w.heap.size [] := ⟨#[], 0, heap_alloc_new w _, rfl⟩

theorem wpList_imap_made {P : Program} {w : World} {ops : Array Oper} {rest : List Oper} {o : Oper} {a : Act} {Q : Exit → Act → World → Prop} (hgd : o.guard = none) (t : TypeId) (ho : o.op = .makeMap t none)
    (hK : wpList P ops Q rest (a.put o.dst (.map (some w.heap.size))) (w.alloc (.map #[] 0))) : wpList P ops Q (o :: rest) a w := by
  refine wpList_plain hgd fun K hK' => ?_
  have hrun := run_makeMap (P := P) t w
  unfold Oper.wp
  simp [execOp, ho, hrun, Result.andThen]
  exact hK' _ _ hK

theorem wpList_imap_ok {P : Program} {w : World} {ops : Array Oper} {rest : List Oper} {o : Oper} {a : Act} {Q : Exit → Act → World → Prop} (hgd : o.guard = none) (t : TypeId) (m k : Operand) (ho : o.op = .lookup t m k true) (kt et : TypeId) (kk : IntKind)
    (h : P.underlying t = some (.map kt et)) (hk : P.underlying kt = some (.int kk)) (b : Nat) (l : List (Int × Int)) (hm : a.eval m = .map (some b)) (hb : IMap w b l) (n : Int) (hn : a.eval k = .int .i64 n) (hz : ∀ w, (zeroValue et).run P w = .ok (.int .i64 0) w)
    (hK : wpList P ops Q rest (a.put o.dst (.tuple #[.int .i64 ((mget l n).getD 0), .bool (mget l n).isSome])) w) : wpList P ops Q (o :: rest) a w := by
  obtain ⟨es, c, h1, h2⟩ := hb
  rcases find_list kk n es.toList l 0 h2 with ⟨g1, g2⟩ | ⟨v, i, g1, g2, -, -⟩
  · refine wpList_lookup_now hgd t m k ho kt et _ h hk rfl b es c hm h1 none (by rw [hn]; exact g2) (.int .i64 0) hz ?_
    rw [g1] at hK; exact hK
  · refine wpList_lookup_now hgd t m k ho kt et _ h hk rfl b es c hm h1 (some (0 + i, .int .i64 v)) (by rw [hn]; exact g2) (.int .i64 0) hz ?_
    rw [g1] at hK; exact hK

theorem run_lookup_one {P : Program} (w : World) (t kt et : TypeId) (d : TypeDesc) (h : P.underlying t = some (.map kt et)) (hk : P.underlying kt = some d) (hp : plainKey d = true) (b : Nat) (key : Value) (es : Array MapEntry) (c : Nat)
    (hb : w.heap[b]? = some (.map es c)) (r : Option (Nat × Value)) (hf : findNow d key es.toList 0 = some r) (z : Value) (hz : ∀ w, (zeroValue et).run P w = .ok z w) :
    (Instr.lookup t (.map (some b)) key false).run P w = .ok ((r.map (·.2)).getD z) w := by
  unfold Instr.lookup
  simp only [Sem.run_bind, run_underlying h, Result.andThen_ok]
  cases r with
  | none => simp [getObj, Sem.run, hb, run_checkKey w _ 9999 kt d hk hp key, run_findKey w kt d hk key es.toList none hf, hz]
  | some r => simp [getObj, Sem.run, hb, run_checkKey w _ 9999 kt d hk hp key, run_findKey w kt d hk key es.toList (some r) hf]
theorem wpList_lookup_one {P : Program} {w : World} {ops : Array Oper} {rest : List Oper} {o : Oper} {a : Act} {Q : Exit → Act → World → Prop} (hgd : o.guard = none) (t : TypeId) (m k : Operand) (ho : o.op = .lookup t m k false) (kt et : TypeId) (d : TypeDesc)
    (h : P.underlying t = some (.map kt et)) (hk : P.underlying kt = some d) (hp : plainKey d = true) (b : Nat) (es : Array MapEntry) (c : Nat) (hm : a.eval m = .map (some b)) (hb : w.heap[b]? = some (.map es c)) (r : Option (Nat × Value))
    (hf : findNow d (a.eval k) es.toList 0 = some r) (z : Value) (hz : ∀ w, (zeroValue et).run P w = .ok z w)
    (hK : wpList P ops Q rest (a.put o.dst ((r.map (·.2)).getD z)) w) : wpList P ops Q (o :: rest) a w := by
  refine wpList_plain hgd fun K hK' => ?_
  have hrun := run_lookup_one (P := P) w t kt et d h hk hp b (a.eval k) es c hb r hf z hz
  unfold Oper.wp
  simp [execOp, ho, hm, hrun, Result.andThen]
  exact hK' _ _ hK
theorem wpList_imap_one {P : Program} {w : World} {ops : Array Oper} {rest : List Oper} {o : Oper} {a : Act} {Q : Exit → Act → World → Prop} (hgd : o.guard = none) (t : TypeId) (m k : Operand) (ho : o.op = .lookup t m k false) (kt et : TypeId) (kk : IntKind)
    (h : P.underlying t = some (.map kt et)) (hk : P.underlying kt = some (.int kk)) (b : Nat) (l : List (Int × Int)) (hm : a.eval m = .map (some b)) (hb : IMap w b l) (n : Int) (hn : a.eval k = .int .i64 n) (hz : ∀ w, (zeroValue et).run P w = .ok (.int .i64 0) w)
    (hK : wpList P ops Q rest (a.put o.dst (.int .i64 ((mget l n).getD 0))) w) : wpList P ops Q (o :: rest) a w := by
  obtain ⟨es, c, h1, h2⟩ := hb
  rcases find_list kk n es.toList l 0 h2 with ⟨g1, g2⟩ | ⟨v, i, g1, g2, -, -⟩
  · refine wpList_lookup_one hgd t m k ho kt et _ h hk rfl b es c hm h1 none (by rw [hn]; exact g2) (.int .i64 0) hz ?_
    rw [g1] at hK; exact hK
  · refine wpList_lookup_one hgd t m k ho kt et _ h hk rfl b es c hm h1 (some (0 + i, .int .i64 v)) (by rw [hn]; exact g2) (.int .i64 0) hz ?_
    rw [g1] at hK; exact hK

theorem run_insert_old {P : Program} (w : World) (t kt et : TypeId) (kk : IntKind) (h : P.underlying t = some (.map kt et)) (hk : P.underlying kt = some (.int kk)) (b : Nat) (n : Int) (val v : Value) (i : Nat) (es : Array MapEntry) (c : Nat)
    (hb : w.heap[b]? = some (.map es c)) (hf : findNow (.int kk) (.int .i64 n) es.toList 0 = some (some (i, v))) (hi : (es[i]?).map (·.key) = some (.int .i64 n)) :
    (Instr.mapUpdate t (.map (some b)) (.int .i64 n) val).run P w = .ok () (World.setObj' w b (.map (es.modify i fun e => { e with key := .int .i64 n, val := val }) c)) := by
  unfold Instr.mapUpdate
  simp only [Sem.run_bind, run_underlying h, Result.andThen_ok]
  have hs : sameBits 10000 (.int .i64 n) (.int .i64 n) = true := by simp [sameBits]
  simp [getObj, Sem.run, hb, run_checkKey w false 9999 kt _ hk rfl, run_findKey w kt _ hk (.int .i64 n) es.toList (some (i, v)) hf, setObj, World.setObj', hi, keyThatStays, hs]
theorem wpList_imap_set {P : Program} {w : World} {ops : Array Oper} {rest : List Oper} {o : Oper} {a : Act} {Q : Exit → Act → World → Prop} (hgd : o.guard = none) (t : TypeId) (m k x : Operand) (ho : o.op = .mapUpdate t m k x) (kt et : TypeId) (kk : IntKind)
    (h : P.underlying t = some (.map kt et)) (hk : P.underlying kt = some (.int kk)) (b : Nat) (l : List (Int × Int)) (hm : a.eval m = .map (some b)) (hb : IMap w b l) (n : Int) (hn : a.eval k = .int .i64 n) (v : Int) (hv : a.eval x = .int .i64 v)
    (hK : ∀ w', IMap w' b (mset n v l) → w.grownBy w' (some b) → wpList P ops Q rest (a.put o.dst undef) w') : wpList P ops Q (o :: rest) a w := by
  obtain ⟨es, c, h1, h2⟩ := hb
  have hlt := (Array.getElem?_eq_some_iff.1 h1).1
  refine wpList_plain hgd fun K hK' => ?_
  rcases find_list kk n es.toList l 0 h2 with ⟨g1, g2⟩ | ⟨v0, i, g1, g2, g3, g4⟩
  · have hrun := run_insert_new (P := P) w t kt et _ h hk rfl b (.int .i64 n) (.int .i64 v) es c h1 g2
    unfold Oper.wp
    simp [execOp, ho, hm, hn, hv, hrun, Result.andThen]
    refine hK' _ _ (hK _ ⟨_, _, setObj'_at _ _ _ hlt, ?_⟩ (setObj'_grown _ _ _))
    rw [mset_new g1]
    simp [h2, kvE, kvI]
  · rw [Nat.zero_add] at g2
    have hrun := run_insert_old (P := P) w t kt et kk h hk b n (.int .i64 v) _ i es c h1 g2 (by simpa using g3)
    unfold Oper.wp
    simp [execOp, ho, hm, hn, hv, hrun, Result.andThen]
    refine hK' _ _ (hK _ ⟨_, _, setObj'_at _ _ _ hlt, ?_⟩ (setObj'_grown _ _ _))
    rw [Array.toList_modify]
    exact g4 v
theorem wpList_imap_len {P : Program} {w : World} {ops : Array Oper} {rest : List Oper} {o : Oper} {a : Act} {Q : Exit → Act → World → Prop} (hgd : o.guard = none) (m : Operand) (t : TypeId) (ho : o.op = .call { callee := .builtin .len, args := #[m], argTypes := #[t] })
    (kt et : TypeId) (h : P.underlying t = some (.map kt et)) (b : Nat) (l : List (Int × Int)) (hm : a.eval m = .map (some b)) (hb : IMap w b l)
    (hK : wpList P ops Q rest (a.put o.dst (.int .i64 l.length)) w) : wpList P ops Q (o :: rest) a w := by
  obtain ⟨es, c, h1, h2⟩ := hb
  have hsz : es.size = l.length := by have := congrArg List.length h2; simpa using this
  refine wpList_plain hgd fun K hK' => ?_
  have hrun : (Builtin.len_ #[t] o.type #[.map (some b)]).run P w = .ok (.int .i64 l.length) w := by
    unfold Builtin.len_
    simp [Sem.run_bind, run_underlying h, getObj, Sem.run, h1, hsz]
    rfl
  unfold Oper.wp
  simp [execOp, ho, resolve, invoke, builtin, hm, hrun, Result.andThen]
  exact hK' _ _ hK
end Go.Proofs.Ytoklbeogmcdgaaa.Maps
