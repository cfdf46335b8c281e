
/-
  A map of numbers to numbers, by what its entries say in their order: a look, a store, its length, a new one. Plain laws over any program.
  Maps of numbers to numbers whose entries' birth marks are told apart: a store, clear, and the range over one in whatever order. Plain laws over any program.
-/
import Derived.Test.YtkhchmgdaolojaaBas
import Derived.Maps.RangeRun
namespace Go.Proofs.Ytkhchmgdaolojaa.Maps
open Go Go.RowKit Go.Instr
set_option linter.unusedVariables false

/-- what a number is told as -/
def mget : List (Int × Int) → Int → Option Int
  | [], _ => none
  | p :: l, n => if n = p.1 then some p.2 else mget l n
/-- a number is told as this from now on -/
def mset (n v : Int) : List (Int × Int) → List (Int × Int)
  | [] => [(n, v)]
  | p :: l => if n = p.1 then (p.1, v) :: l else p :: mset n v l
def kvE (e : MapEntry) : Value × Value := (e.key, e.val)
def kvI (p : Int × Int) : Value × Value := (.int .i64 p.1, .int .i64 p.2)
/-- block b is a map of these entries -/
def IMap (w : World) (b : Nat) (l : List (Int × Int)) : Prop := ∃ es c, w.heap[b]? = some (.map es c) ∧ es.toList.map kvE = l.map kvI

theorem mget_mset_same (n v : Int) : ∀ l, mget (mset n v l) n = some v
  | [] => by simp [mset, mget]
  | p :: l => by
    unfold mset
    by_cases h : n = p.1
    · rw [if_pos h]; simp [mget, h]
    · rw [if_neg h]; simp [mget, h, mget_mset_same n v l]
theorem mget_mset_other (n v m : Int) (hm : m ≠ n) : ∀ l, mget (mset n v l) m = mget l m
  | [] => by simp [mset, mget, hm]
  | p :: l => by
    unfold mset
    by_cases h : n = p.1
    · rw [if_pos h]; simp only [mget]; rw [if_neg fun e => hm (e.trans h.symm), if_neg fun e => hm (e.trans h.symm)]
    · rw [if_neg h]; simp only [mget]; by_cases h2 : m = p.1
      · rw [if_pos h2, if_pos h2]
      · rw [if_neg h2, if_neg h2, mget_mset_other n v m hm l]
theorem mset_new {n v : Int} : ∀ {l}, mget l n = none → mset n v l = l ++ [(n, v)]
  | [], _ => rfl
  | p :: l, h => by
    simp only [mget] at h
    split at h
    · cases h
    · rename_i hne
      simp only [mset, if_neg hne, List.cons_append]
      rw [mset_new h]
theorem mset_len_old {n v x : Int} : ∀ {l}, mget l n = some x → (mset n v l).length = l.length
  | p :: l, h => by
    simp only [mget] at h
    split at h
    · rename_i e; simp [mset, e]
    · rename_i hne
      simp only [mset, if_neg hne, List.length_cons]
      rw [mset_len_old h]
theorem mset_len_le (n v : Int) : ∀ l, (mset n v l).length ≤ l.length + 1
  | [] => by simp [mset]
  | p :: l => by
    simp only [mset]
    split
    · simp
    · have := mset_len_le n v l; simp; omega

theorem find_list (k : IntKind) (n : Int) : ∀ (es : List MapEntry) (l : List (Int × Int)) (j : Nat), es.map kvE = l.map kvI →
    (mget l n = none ∧ findNow (.int k) (.int .i64 n) es j = some none) ∨
    ∃ v i, mget l n = some v ∧ findNow (.int k) (.int .i64 n) es j = some (some (j + i, .int .i64 v)) ∧ (es[i]?).map (·.key) = some (.int .i64 n) ∧ ∀ x, (es.modify i fun e => { e with key := .int .i64 n, val := .int .i64 x }).map kvE = (mset n x l).map kvI
  | [], [], j, _ => .inl ⟨rfl, rfl⟩
  | [], _ :: _, _, h => by simp at h
  | _ :: _, [], _, h => by simp at h
  | e :: es, p :: l, j, h => by
    simp only [List.map_cons, List.cons.injEq] at h
    obtain ⟨h1, h2⟩ := h
    simp only [kvE, kvI, Prod.mk.injEq] at h1
    obtain ⟨hk, hv⟩ := h1
    by_cases e1 : n = p.1
    · right
      refine ⟨p.2, 0, by simp [mget, e1], ?_, by simp [hk, e1], fun x => ?_⟩
      · simp [findNow, sameNow, hk, hv, e1]
      · simp only [List.modify_zero_cons, List.map_cons, mset, if_pos e1, h2]
        simp [kvE, kvI, e1]
    · have hb : (n == p.1) = false := by simpa using e1
      rcases find_list k n es l (j + 1) h2 with ⟨g1, g2⟩ | ⟨v, i, g1, g2, g3, g4⟩
      · left
        refine ⟨by simp [mget, e1, g1], ?_⟩
        simp only [findNow, sameNow, hk, if_true, hb]
        exact g2
      · right
        refine ⟨v, i + 1, by simp [mget, e1, g1], ?_, by simpa using g3, fun x => ?_⟩
        · simp only [findNow, sameNow, hk, if_true, hb]
          rw [g2, show j + 1 + i = j + (i + 1) by omega]
        · simp only [List.modify_succ_cons, List.map_cons, mset, if_neg e1, g4 x]
          simp [kvE, kvI, hk, hv]

theorem IMap.below {w w' : World} {b : Nat} {l : List (Int × Int)} (h : IMap w b l) (hk : w'.heap[b]? = w.heap[b]?) : IMap w' b l := by
  obtain ⟨es, c, h1, h2⟩ := h
  exact ⟨es, c, hk.trans h1, h2⟩
theorem IMap.lt {w : World} {b : Nat} {l : List (Int × Int)} (h : IMap w b l) : b < w.heap.size := by
  obtain ⟨es, c, h1, h2⟩ := h
  exact (Array.getElem?_eq_some_iff.1 h1).1
theorem IMap.made (w : World) : IMap (w.alloc (.map #[] 0)) w.heap.size [] := ⟨#[], 0, heap_alloc_new w _, rfl⟩

theorem wpList_imap_made {P : Program} {w : World} {ops : Array Oper} {rest : List Oper} {o : Oper} {a : Act} {Q : Exit → Act → World → Prop} (hgd : o.guard = none) (t : TypeId) (ho : o.op = .makeMap t none)
    (hK : wpList P ops Q rest (a.put o.dst (.map (some w.heap.size))) (w.alloc (.map #[] 0))) : wpList P ops Q (o :: rest) a w := by
  refine wpList_plain hgd fun K hK' => ?_
  have hrun := run_makeMap (P := P) t w
  unfold Oper.wp
  simp [execOp, ho, hrun, Result.andThen]
  exact hK' _ _ hK

theorem wpList_imap_ok {P : Program} {w : World} {ops : Array Oper} {rest : List Oper} {o : Oper} {a : Act} {Q : Exit → Act → World → Prop} (hgd : o.guard = none) (t : TypeId) (m k : Operand) (ho : o.op = .lookup t m k true) (kt et : TypeId) (kk : IntKind)
    (h : P.underlying t = some (.map kt et)) (hk : P.underlying kt = some (.int kk)) (b : Nat) (l : List (Int × Int)) (hm : a.eval m = .map (some b)) (hb : IMap w b l) (n : Int) (hn : a.eval k = .int .i64 n) (hz : ∀ w, (zeroValue et).run P w = .ok (.int .i64 0) w)
    (hK : wpList P ops Q rest (a.put o.dst (.tuple #[.int .i64 ((mget l n).getD 0), .bool (mget l n).isSome])) w) : wpList P ops Q (o :: rest) a w := by
  obtain ⟨es, c, h1, h2⟩ := hb
  rcases find_list kk n es.toList l 0 h2 with ⟨g1, g2⟩ | ⟨v, i, g1, g2, -, -⟩
  · refine wpList_lookup_now hgd t m k ho kt et _ h hk rfl b es c hm h1 none (by rw [hn]; exact g2) (.int .i64 0) hz ?_
    rw [g1] at hK; exact hK
  · refine wpList_lookup_now hgd t m k ho kt et _ h hk rfl b es c hm h1 (some (0 + i, .int .i64 v)) (by rw [hn]; exact g2) (.int .i64 0) hz ?_
    rw [g1] at hK; exact hK

theorem run_lookup_one {P : Program} (w : World) (t kt et : TypeId) (d : TypeDesc) (h : P.underlying t = some (.map kt et)) (hk : P.underlying kt = some d) (hp : plainKey d = true) (b : Nat) (key : Value) (es : Array MapEntry) (c : Nat)
    (hb : w.heap[b]? = some (.map es c)) (r : Option (Nat × Value)) (hf : findNow d key es.toList 0 = some r) (z : Value) (hz : ∀ w, (zeroValue et).run P w = .ok z w) :
    (Instr.lookup t (.map (some b)) key false).run P w = .ok ((r.map (·.2)).getD z) w := by
  unfold Instr.lookup
  simp only [Sem.run_bind, run_underlying h, Result.andThen_ok]
  cases r with
  | none => simp [getObj, Sem.run, hb, run_checkKey w _ 9999 kt d hk hp key, run_findKey w kt d hk key es.toList none hf, hz]
  | some r => simp [getObj, Sem.run, hb, run_checkKey w _ 9999 kt d hk hp key, run_findKey w kt d hk key es.toList (some r) hf]
theorem wpList_lookup_one {P : Program} {w : World} {ops : Array Oper} {rest : List Oper} {o : Oper} {a : Act} {Q : Exit → Act → World → Prop} (hgd : o.guard = none) (t : TypeId) (m k : Operand) (ho : o.op = .lookup t m k false) (kt et : TypeId) (d : TypeDesc)
    (h : P.underlying t = some (.map kt et)) (hk : P.underlying kt = some d) (hp : plainKey d = true) (b : Nat) (es : Array MapEntry) (c : Nat) (hm : a.eval m = .map (some b)) (hb : w.heap[b]? = some (.map es c)) (r : Option (Nat × Value))
    (hf : findNow d (a.eval k) es.toList 0 = some r) (z : Value) (hz : ∀ w, (zeroValue et).run P w = .ok z w)
    (hK : wpList P ops Q rest (a.put o.dst ((r.map (·.2)).getD z)) w) : wpList P ops Q (o :: rest) a w := by
  refine wpList_plain hgd fun K hK' => ?_
  have hrun := run_lookup_one (P := P) w t kt et d h hk hp b (a.eval k) es c hb r hf z hz
  unfold Oper.wp
  simp [execOp, ho, hm, hrun, Result.andThen]
  exact hK' _ _ hK
theorem wpList_imap_one {P : Program} {w : World} {ops : Array Oper} {rest : List Oper} {o : Oper} {a : Act} {Q : Exit → Act → World → Prop} (hgd : o.guard = none) (t : TypeId) (m k : Operand) (ho : o.op = .lookup t m k false) (kt et : TypeId) (kk : IntKind)
    (h : P.underlying t = some (.map kt et)) (hk : P.underlying kt = some (.int kk)) (b : Nat) (l : List (Int × Int)) (hm : a.eval m = .map (some b)) (hb : IMap w b l) (n : Int) (hn : a.eval k = .int .i64 n) (hz : ∀ w, (zeroValue et).run P w = .ok (.int .i64 0) w)
    (hK : wpList P ops Q rest (a.put o.dst (.int .i64 ((mget l n).getD 0))) w) : wpList P ops Q (o :: rest) a w := by
  obtain ⟨es, c, h1, h2⟩ := hb
  rcases find_list kk n es.toList l 0 h2 with ⟨g1, g2⟩ | ⟨v, i, g1, g2, -, -⟩
  · refine wpList_lookup_one hgd t m k ho kt et _ h hk rfl b es c hm h1 none (by rw [hn]; exact g2) (.int .i64 0) hz ?_
    rw [g1] at hK; exact hK
  · refine wpList_lookup_one hgd t m k ho kt et _ h hk rfl b es c hm h1 (some (0 + i, .int .i64 v)) (by rw [hn]; exact g2) (.int .i64 0) hz ?_
    rw [g1] at hK; exact hK

theorem run_insert_old {P : Program} (w : World) (t kt et : TypeId) (kk : IntKind) (h : P.underlying t = some (.map kt et)) (hk : P.underlying kt = some (.int kk)) (b : Nat) (n : Int) (val v : Value) (i : Nat) (es : Array MapEntry) (c : Nat)
    (hb : w.heap[b]? = some (.map es c)) (hf : findNow (.int kk) (.int .i64 n) es.toList 0 = some (some (i, v))) (hi : (es[i]?).map (·.key) = some (.int .i64 n)) :
    (Instr.mapUpdate t (.map (some b)) (.int .i64 n) val).run P w = .ok () (World.setObj' w b (.map (es.modify i fun e => { e with key := .int .i64 n, val := val }) c)) := by
  unfold Instr.mapUpdate
  simp only [Sem.run_bind, run_underlying h, Result.andThen_ok]
  have hs : sameBits 10000 (.int .i64 n) (.int .i64 n) = true := by simp [sameBits]
  simp [getObj, Sem.run, hb, run_checkKey w false 9999 kt _ hk rfl, run_findKey w kt _ hk (.int .i64 n) es.toList (some (i, v)) hf, setObj, World.setObj', hi, keyThatStays, hs]
theorem wpList_imap_set {P : Program} {w : World} {ops : Array Oper} {rest : List Oper} {o : Oper} {a : Act} {Q : Exit → Act → World → Prop} (hgd : o.guard = none) (t : TypeId) (m k x : Operand) (ho : o.op = .mapUpdate t m k x) (kt et : TypeId) (kk : IntKind)
    (h : P.underlying t = some (.map kt et)) (hk : P.underlying kt = some (.int kk)) (b : Nat) (l : List (Int × Int)) (hm : a.eval m = .map (some b)) (hb : IMap w b l) (n : Int) (hn : a.eval k = .int .i64 n) (v : Int) (hv : a.eval x = .int .i64 v)
    (hK : ∀ w', IMap w' b (mset n v l) → w.grownBy w' (some b) → wpList P ops Q rest (a.put o.dst undef) w') : wpList P ops Q (o :: rest) a w := by
  obtain ⟨es, c, h1, h2⟩ := hb
  have hlt := (Array.getElem?_eq_some_iff.1 h1).1
  refine wpList_plain hgd fun K hK' => ?_
  rcases find_list kk n es.toList l 0 h2 with ⟨g1, g2⟩ | ⟨v0, i, g1, g2, g3, g4⟩
  · have hrun := run_insert_new (P := P) w t kt et _ h hk rfl b (.int .i64 n) (.int .i64 v) es c h1 g2
    unfold Oper.wp
    simp [execOp, ho, hm, hn, hv, hrun, Result.andThen]
    refine hK' _ _ (hK _ ⟨_, _, setObj'_at _ _ _ hlt, ?_⟩ (setObj'_grown _ _ _))
    rw [mset_new g1]
    simp [h2, kvE, kvI]
  · rw [Nat.zero_add] at g2
    have hrun := run_insert_old (P := P) w t kt et kk h hk b n (.int .i64 v) _ i es c h1 g2 (by simpa using g3)
    unfold Oper.wp
    simp [execOp, ho, hm, hn, hv, hrun, Result.andThen]
    refine hK' _ _ (hK _ ⟨_, _, setObj'_at _ _ _ hlt, ?_⟩ (setObj'_grown _ _ _))
    rw [Array.toList_modify]
    exact g4 v
theorem wpList_imap_len {P : Program} {w : World} {ops : Array Oper} {rest : List Oper} {o : Oper} {a : Act} {Q : Exit → Act → World → Prop} (hgd : o.guard = none) (m : Operand) (t : TypeId) (ho : o.op = .call { callee := .builtin .len, args := #[m], argTypes := #[t] })
    (kt et : TypeId) (h : P.underlying t = some (.map kt et)) (b : Nat) (l : List (Int × Int)) (hm : a.eval m = .map (some b)) (hb : IMap w b l)
    (hK : wpList P ops Q rest (a.put o.dst (.int .i64 l.length)) w) : wpList P ops Q (o :: rest) a w := by
  obtain ⟨es, c, h1, h2⟩ := hb
  have hsz : es.size = l.length := by have := congrArg List.length h2; simpa using this
  refine wpList_plain hgd fun K hK' => ?_
  have hrun : (Builtin.len_ #[t] o.type #[.map (some b)]).run P w = .ok (.int .i64 l.length) w := by
    unfold Builtin.len_
    simp [Sem.run_bind, run_underlying h, getObj, Sem.run, h1, hsz]
    rfl
  unfold Oper.wp
  simp [execOp, ho, resolve, invoke, builtin, hm, hrun, Result.andThen]
  exact hK' _ _ hK
end Go.Proofs.Ytkhchmgdaolojaa.Maps
namespace Go.Proofs.Ytkhchmgdaolojaa.Maps
open Go Go.RowKit Go.Instr Go.ChangeMaps
set_option linter.unusedVariables false

/-- block b is a map of these entries, each born at a time of its own -/
def IMapB (w : World) (b : Nat) (l : List (Int × Int)) : Prop := ∃ es c, w.heap[b]? = some (.map es c) ∧ es.toList.map kvE = l.map kvI ∧ (∀ x ∈ es.toList, x.born < c) ∧ (es.toList.map (·.born)).Nodup
theorem IMapB.imap {w : World} {b : Nat} {l : List (Int × Int)} (h : IMapB w b l) : IMap w b l := let ⟨es, c, h1, h2, _⟩ := h; ⟨es, c, h1, h2⟩
theorem IMapB.below {w w' : World} {b : Nat} {l : List (Int × Int)} (h : IMapB w b l) (hk : w'.heap[b]? = w.heap[b]?) : IMapB w' b l := let ⟨es, c, h1, h2⟩ := h; ⟨es, c, hk.trans h1, h2⟩
theorem IMapB.lt {w : World} {b : Nat} {l : List (Int × Int)} (h : IMapB w b l) : b < w.heap.size := h.imap.lt
theorem IMapB.made (w : World) : IMapB (w.alloc (.map #[] 0)) w.heap.size [] := ⟨#[], 0, heap_alloc_new w _, rfl, by simp, by simp⟩
theorem wpList_imapb_set {P : Program} {w : World} {ops : Array Oper} {rest : List Oper} {o : Oper} {a : Act} {Q : Exit → Act → World → Prop} (hgd : o.guard = none) (t : TypeId) (m k x : Operand) (ho : o.op = .mapUpdate t m k x) (kt et : TypeId) (kk : IntKind)
    (h : P.underlying t = some (.map kt et)) (hk : P.underlying kt = some (.int kk)) (b : Nat) (l : List (Int × Int)) (hm : a.eval m = .map (some b)) (hb : IMapB w b l) (n : Int) (hn : a.eval k = .int .i64 n) (v : Int) (hv : a.eval x = .int .i64 v)
    (hK : ∀ w', IMapB w' b (mset n v l) → w.grownBy w' (some b) → wpList P ops Q rest (a.put o.dst undef) w') : wpList P ops Q (o :: rest) a w := by
  obtain ⟨es, c, h1, h2, h3, h4⟩ := hb
  have hlt := (Array.getElem?_eq_some_iff.1 h1).1
  refine wpList_plain hgd fun K hK' => ?_
  rcases find_list kk n es.toList l 0 h2 with ⟨g1, g2⟩ | ⟨v0, i, g1, g2, g3, g4⟩
  · have hrun := run_insert_new (P := P) w t kt et _ h hk rfl b (.int .i64 n) (.int .i64 v) es c h1 g2
    unfold Oper.wp
    simp [execOp, ho, hm, hn, hv, hrun, Result.andThen]
    refine hK' _ _ (hK _ ⟨_, _, setObj'_at _ _ _ hlt, ?_, ?_, ?_⟩ (setObj'_grown _ _ _))
    · rw [mset_new g1]
      simp [h2, kvE, kvI]
    · intro x hx
      simp only [Array.toList_push, List.mem_append, List.mem_singleton] at hx
      rcases hx with hx | rfl
      · have := h3 x hx; omega
      · simp
    · simp only [Array.toList_push, List.map_append, List.map_cons, List.map_nil]
      refine List.nodup_append.2 ⟨h4, by simp, fun x hx y hy => ?_⟩
      simp only [List.mem_map] at hx
      obtain ⟨z, hz, rfl⟩ := hx
      have := h3 z hz
      simp only [List.mem_singleton] at hy
      omega
  · rw [Nat.zero_add] at g2
    have hrun := run_insert_old (P := P) w t kt et kk h hk b n (.int .i64 v) _ i es c h1 g2 (by simpa using g3)
    unfold Oper.wp
    simp [execOp, ho, hm, hn, hv, hrun, Result.andThen]
    refine hK' _ _ (hK _ ⟨_, _, setObj'_at _ _ _ hlt, ?_, ?_, ?_⟩ (setObj'_grown _ _ _))
    · rw [Array.toList_modify]
      exact g4 v
    · rw [Array.toList_modify]
      intro x hx
      obtain ⟨j, hj, rfl⟩ := List.mem_iff_getElem.1 hx
      rw [List.getElem_modify]
      have hj' : j < es.toList.length := by simpa using hj
      have := h3 _ (List.getElem_mem hj')
      split <;> exact this
    · rw [Array.toList_modify]
      have : (es.toList.modify i fun e => { e with key := .int .i64 n, val := .int .i64 v }).map (·.born) = es.toList.map (·.born) := by
        apply List.ext_getElem (by simp)
        intro j h1 h2
        simp only [List.getElem_map, List.getElem_modify]
        split <;> rfl
      rw [this]; exact h4
/-- clear of a map -/
theorem wpList_imapb_clear {P : Program} {w : World} {ops : Array Oper} {rest : List Oper} {o : Oper} {a : Act} {Q : Exit → Act → World → Prop} (hgd : o.guard = none) (x : Operand) (t kt et : TypeId)
    (ho : o.op = .call { callee := .builtin .clear, args := #[x], argTypes := #[t] }) (h : P.underlying t = some (.map kt et)) (b : Nat) (l : List (Int × Int)) (hx : a.eval x = .map (some b)) (hb : IMapB w b l)
    (hK : ∀ w', IMapB w' b [] → w.grownBy w' (some b) → wpList P ops Q rest (a.put o.dst (.tuple #[])) w') : wpList P ops Q (o :: rest) a w := by
  obtain ⟨es, c, h1, h2, h3, h4⟩ := hb
  have hlt := (Array.getElem?_eq_some_iff.1 h1).1
  refine wpList_plain hgd fun K' hK' => ?_
  have hrun : (Builtin.clear_ #[t] o.type #[.map (some b)]).run P w = .ok (.tuple #[]) (World.setObj' w b (.map #[] c)) := by
    unfold Builtin.clear_
    simp only [List.getElem?_toArray, List.getElem?_cons_zero, Sem.run_bind, run_underlying h, Result.andThen_ok]
    rw [Array.getElem?_eq_getElem hlt] at h1
    have h1 := Option.some.inj h1
    simp [getObj, Sem.run, setObj, World.setObj', hlt, h1]
  unfold Oper.wp execOp
  simp only [ho, resolve, invoke, builtin, Sem.run_bind, Sem.run_pure, Result.andThen_ok, List.map_toArray, List.map_cons, List.map_nil, hx, hrun]
  exact hK' _ _ (hK _ ⟨#[], c, setObj'_at _ _ _ hlt, rfl, by simp, by simp⟩ (setObj'_grown _ _ _))
/-- a look into a map, nil perhaps -/
def VMap (w : World) (v : Value) (l : List (Int × Int)) : Prop := (v = .map none ∧ l = []) ∨ ∃ b, v = .map (some b) ∧ IMapB w b l
theorem run_lookup_nil {P : Program} (w : World) (t kt et : TypeId) (d : TypeDesc) (h : P.underlying t = some (.map kt et)) (hk : P.underlying kt = some d) (hp : plainKey d = true) (key : Value) (hf : findNow d key [] 0 = some none) (z : Value) (hz : ∀ w, (zeroValue et).run P w = .ok z w) :
    (Instr.lookup t (.map none) key true).run P w = .ok (.tuple #[z, .bool false]) w := by
  unfold Instr.lookup
  simp only [Sem.run_bind, run_underlying h, Result.andThen_ok]
  simp [run_checkKey w _ 9999 kt d hk hp key, run_findKey w kt d hk key [] none hf, hz]
theorem wpList_vmap_ok {P : Program} {w : World} {ops : Array Oper} {rest : List Oper} {o : Oper} {a : Act} {Q : Exit → Act → World → Prop} (hgd : o.guard = none) (t : TypeId) (m k : Operand) (ho : o.op = .lookup t m k true) (kt et : TypeId) (kk : IntKind)
    (h : P.underlying t = some (.map kt et)) (hk : P.underlying kt = some (.int kk)) (v : Value) (l : List (Int × Int)) (hm : a.eval m = v) (hb : VMap w v l) (n : Int) (hn : a.eval k = .int .i64 n) (hz : ∀ w, (zeroValue et).run P w = .ok (.int .i64 0) w)
    (hK : wpList P ops Q rest (a.put o.dst (.tuple #[.int .i64 ((mget l n).getD 0), .bool (mget l n).isSome])) w) : wpList P ops Q (o :: rest) a w := by
  rcases hb with ⟨rfl, rfl⟩ | ⟨b, rfl, hb⟩
  · refine wpList_plain hgd fun K hK' => ?_
    have hrun := run_lookup_nil (P := P) w t kt et _ h hk rfl (a.eval k) rfl (.int .i64 0) hz
    unfold Oper.wp
    simp [execOp, ho, hm, hrun, Result.andThen]
    exact hK' _ _ hK
  · exact wpList_imap_ok hgd t m k ho kt et kk h hk b l hm hb.imap n hn hz hK
theorem VMap.below {w w' : World} {v : Value} {l : List (Int × Int)} (h : VMap w v l) (hk : ∀ b, v = .map (some b) → w'.heap[b]? = w.heap[b]?) : VMap w' v l := by
  rcases h with h | ⟨b, rfl, h⟩
  · exact .inl h
  · exact .inr ⟨b, rfl, h.below (hk b rfl)⟩

/-! ### The range -/
/-- block r is an iterator over the map of block b; these entries are left -/
def ItAt (w : World) (r b : Nat) (rest : List (Int × Int)) : Prop := ∃ (es : Array MapEntry) (c : Nat) (seen : Array Nat), w.heap[r]? = some (.mapIter (some b) c seen c) ∧ w.heap[b]? = some (.map es c) ∧ (∀ x ∈ es.toList, x.born < c) ∧ (es.toList.map (·.born)).Nodup ∧ (leftOf es seen).toList.map kvE = rest.map kvI
/-- the same behind a step: this entry was handed out last -/
def ItNow (w : World) (r b : Nat) (p : Int × Int) (rest : List (Int × Int)) : Prop :=
  ∃ (es : Array MapEntry) (c : Nat) (seen : Array Nat) (e : MapEntry), w.heap[r]? = some (.mapIter (some b) c (seen.push e.born) c) ∧ w.heap[b]? = some (.map es c) ∧ (∀ x ∈ es.toList, x.born < c) ∧ (es.toList.map (·.born)).Nodup ∧ (leftOf es (seen.push e.born)).toList.map kvE = rest.map kvI ∧ e ∈ es.toList ∧ kvE e = kvI p
theorem ItNow.at {w : World} {r b : Nat} {p : Int × Int} {rest : List (Int × Int)} (h : ItNow w r b p rest) : ItAt w r b rest := let ⟨es, c, seen, e, h1, h2, h3, h4, h5, _⟩ := h; ⟨es, c, seen.push e.born, h1, h2, h3, h4, h5⟩
theorem ItAt.keep {w w' : World} {r b : Nat} {rest : List (Int × Int)} (h : ItAt w r b rest) (h1 : w'.heap[r]? = w.heap[r]?) (h2 : w'.heap[b]? = w.heap[b]?) : ItAt w' r b rest := let ⟨es, c, seen, g1, g2, g⟩ := h; ⟨es, c, seen, h1.trans g1, h2.trans g2, g⟩
theorem ItNow.keep {w w' : World} {r b : Nat} {p : Int × Int} {rest : List (Int × Int)} (h : ItNow w r b p rest) (h1 : w'.heap[r]? = w.heap[r]?) (h2 : w'.heap[b]? = w.heap[b]?) : ItNow w' r b p rest := let ⟨es, c, seen, e, g1, g2, g⟩ := h; ⟨es, c, seen, e, h1.trans g1, h2.trans g2, g⟩
theorem ItAt.lt {w : World} {r b : Nat} {rest : List (Int × Int)} (h : ItAt w r b rest) : r < w.heap.size ∧ b < w.heap.size ∧ r ≠ b := by
  obtain ⟨es, c, seen, g1, g2, -⟩ := h
  refine ⟨(Array.getElem?_eq_some_iff.1 g1).1, (Array.getElem?_eq_some_iff.1 g2).1, fun e => ?_⟩
  rw [e, g2] at g1
  simp at g1
theorem left_all (es : Array MapEntry) : leftOf es #[] = es := by simp [leftOf]
theorem wpList_it_range {P : Program} {w : World} {ops : Array Oper} {rest : List Oper} {o : Oper} {a : Act} {Q : Exit → Act → World → Prop} (hgd : o.guard = none) (t kt et : TypeId) (m : Operand) (ho : o.op = .range t m) (h : P.underlying t = some (.map kt et)) (b : Nat) (l : List (Int × Int))
    (hm : a.eval m = .map (some b)) (hb : IMapB w b l) (hK : ∀ w', ItAt w' w.heap.size b l → Below w.heap.size w w' → wpList P ops Q rest (a.put o.dst (.pointer (some ⟨w.heap.size, 0, none⟩))) w') : wpList P ops Q (o :: rest) a w := by
  obtain ⟨es, c, h1, h2, h3, h4⟩ := hb
  refine wpList_plain hgd fun K hK' => ?_
  have hrun := run_range_map (P := P) w t kt et b es c h h1
  unfold Oper.wp
  simp [execOp, ho, hm, hrun, Result.andThen]
  refine hK' _ _ (hK _ ⟨es, c, #[], heap_alloc_new w _, ?_, h3, h4, by rw [left_all]; exact h2⟩ ((Below.refl _ _).alloc (Nat.le_refl _) _))
  rw [heap_alloc_old w _ (Array.getElem?_eq_some_iff.1 h1).1]
  exact h1
theorem perm_strike {e : MapEntry} : ∀ {l : List MapEntry}, (l.map (·.born)).Nodup → e ∈ l → l.Perm (e :: l.filter fun x => !(x.born == e.born))
  | [], _, h => by cases h
  | x :: l, hn, h => by
    simp only [List.map_cons, List.nodup_cons] at hn
    rcases List.mem_cons.1 h with rfl | h
    · have hf : l.filter (fun x => !(x.born == e.born)) = l := List.filter_eq_self.2 fun y hy => by
        simp only [Bool.not_eq_true', beq_eq_false_iff_ne, ne_eq]
        intro e'
        exact hn.1 (List.mem_map.2 ⟨y, hy, e'⟩)
      simp [hf]
    · have hne : ¬ x.born = e.born := fun e' => hn.1 (List.mem_map.2 ⟨e, h, e'.symm⟩)
      have hx : (!(x.born == e.born)) = true := by simpa using hne
      rw [List.filter_cons_of_pos (by exact hx)]
      exact ((perm_strike hn.2 h).cons x).trans (List.Perm.swap _ _ _)
theorem left_push (es : Array MapEntry) (seen : Array Nat) (n : Nat) : (leftOf es (seen.push n)).toList = (leftOf es seen).toList.filter fun x => !(x.born == n) := by
  simp only [leftOf, Array.toList_filter, List.filter_filter]
  apply List.filter_congr
  intro x _
  simp only [Array.contains_push]
  cases h1 : seen.contains x.born <;> cases h2 : (x.born == n) <;> simp_all
theorem kv_of {L : List MapEntry} {l : List (Int × Int)} (h : L.map kvE = l.map kvI) {e : MapEntry} (he : e ∈ L) : ∃ p, p ∈ l ∧ kvE e = kvI p := by
  have : kvE e ∈ l.map kvI := by rw [← h]; exact List.mem_map.2 ⟨e, he, rfl⟩
  obtain ⟨p, hp, e'⟩ := List.mem_map.1 this
  exact ⟨p, hp, e'.symm⟩
theorem kv_all : ∀ {L : List MapEntry} {l : List (Int × Int)}, L.map kvE = l.map kvI → ∀ {M : List MapEntry}, (∀ x ∈ M, x ∈ L) → ∃ m : List (Int × Int), M.map kvE = m.map kvI
  | L, l, h, [], _ => ⟨[], rfl⟩
  | L, l, h, x :: M, hM => by
    obtain ⟨m, hm⟩ := kv_all h (M := M) fun y hy => hM y (List.mem_cons_of_mem _ hy)
    obtain ⟨p, -, hp⟩ := kv_of h (hM x (List.mem_cons_self ..))
    exact ⟨p :: m, by simp [hm, hp]⟩
theorem kvI_inj {p q : Int × Int} (h : kvI p = kvI q) : p = q := by
  simp only [kvI, Prod.mk.injEq, Value.int.injEq, true_and] at h
  exact Prod.ext h.1 h.2
theorem perm_kv {l m : List (Int × Int)} (h : (l.map kvI).Perm (m.map kvI)) : l.Perm m := by
  have hg : ∀ l : List (Int × Int), (l.map kvI).map (fun v => match v with | (.int _ a, .int _ b) => (a, b) | _ => (0, 0)) = l := fun l => by
    rw [List.map_map]; simp [kvI, Function.comp_def]
  have := h.map (fun v : Value × Value => match v with | (.int _ a, .int _ b) => (a, b) | _ => ((0, 0) : Int × Int))
  rwa [hg, hg] at this
theorem run_it_next {P : Program} {w : World} (ty : TypeId) (r b : Nat) (l : List (Int × Int)) (hb : ItAt w r b l) : (l = [] ∧ (Instr.next (.pointer (some ⟨r, 0, none⟩)) false ty).run P w = .ok (.tuple #[.bool false]) w) ∨
    ∃ p l' w', l.Perm (p :: l') ∧ ItNow w' r b p l' ∧ w.grownBy w' (some r) ∧ (Instr.next (.pointer (some ⟨r, 0, none⟩)) false ty).run P w = .ok (.tuple #[.bool true, .int .i64 p.1, .int .i64 p.2]) w' := by
  obtain ⟨es, c, seen, h1, h2, h3, h4, h5⟩ := hb
  rcases run_next_at (P := P) w ty r b c c seen es c h1 h2 h3 (Nat.le_refl _) with ⟨g1, g2⟩ | ⟨e, he, w1, hw1, g⟩
  · have hl : l = [] := by
      have : (leftOf es seen).toList = [] := List.eq_nil_of_length_eq_zero (by simpa using g1)
      rw [this] at h5
      simpa using h5.symm
    exact .inl ⟨hl, g2⟩
  · obtain ⟨p, -, hp⟩ := kv_of h5 he
    have hes : e ∈ es.toList := by simp only [leftOf, Array.toList_filter, List.mem_filter] at he; exact he.1
    have hnl : ((leftOf es seen).toList.map (·.born)).Nodup := by
      simp only [leftOf, Array.toList_filter]
      exact h4.sublist (List.Sublist.map _ List.filter_sublist)
    have hper := perm_strike hnl he
    rw [← left_push] at hper
    obtain ⟨l', hl'⟩ := kv_all h5 (M := (leftOf es (seen.push e.born)).toList) fun y hy => hper.symm.mem_iff.1 (List.mem_cons_of_mem _ hy)
    have hpl : l.Perm (p :: l') := by
      have h6 := hper.map kvE
      rw [h5, List.map_cons, hl', hp] at h6
      exact perm_kv (m := p :: l') h6
    have hke : e.key = .int .i64 p.1 ∧ e.val = .int .i64 p.2 := by simpa [kvE, kvI] using hp
    rw [hke.1, hke.2] at g
    have hw1h : w1.heap = w.heap := by rcases hw1 with rfl | rfl <;> rfl
    have hrl := (Array.getElem?_eq_some_iff.1 h1).1
    have hrb : r ≠ b := fun e => by rw [e, h2] at h1; simp at h1
    have hoth : ∀ k, k ≠ r → (setBlock w1 r (.mapIter (some b) c (seen.push e.born) c)).heap[k]? = w.heap[k]? := fun k hk => by
      show (w1.heap.setIfInBounds r _)[k]? = _
      rw [hw1h, Array.getElem?_setIfInBounds, if_neg fun e => hk e.symm]
    refine .inr ⟨p, l', _, hpl, ⟨es, c, seen, e, ?_, (hoth b fun e => hrb e.symm).trans h2, h3, h4, hl', hes, hp⟩, ⟨?_, ?_, ?_, ?_, fun k _ hk => hoth k fun e => hk (by rw [e])⟩, g⟩
    · show (w1.heap.setIfInBounds r _)[r]? = _
      rw [hw1h]
      simp [hrl]
    · rcases hw1 with rfl | rfl <;> rfl
    · rcases hw1 with rfl | rfl <;> rfl
    · rcases hw1 with rfl | rfl <;> rfl
    · show w.heap.size ≤ (w1.heap.setIfInBounds r _).size
      rw [hw1h]; simp
theorem run_it_entry {P : Program} {w : World} (r b : Nat) (p : Int × Int) (l : List (Int × Int)) (hb : ItNow w r b p l) : (Instr.entry (.pointer (some ⟨r, 0, none⟩))).run P w = .ok (.tuple #[.int .i64 p.1, .int .i64 p.2]) w := by
  obtain ⟨es, c, seen, e, h1, h2, h3, h4, h5, h6, h7⟩ := hb
  have hrun := run_entry_at (P := P) w r b c seen es c e h1 h2 h6 h4
  have hke : e.key = .int .i64 p.1 ∧ e.val = .int .i64 p.2 := by simpa [kvE, kvI] using h7
  rw [hke.1, hke.2] at hrun
  exact hrun
end Go.Proofs.Ytkhchmgdaolojaa.Maps
