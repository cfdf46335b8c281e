
/-
  Maps whose keys are structs, by what their entries say in their order: a look, a store, the length. Plain laws over any program.
-/
import Derived.Test.YtcmgfelbbmeanaaImr
import Derived.WideKeyRuns
namespace Go.Proofs.Ytcmgfelbbmeanaa.Maps
open Go Go.RowKit Go.Instr
set_option linter.unusedVariables false

/-- keys that may be asked: how they lie in memory, and that Go's == tells them apart -/
structure KeyOf (P : Program) (κ : Type) [DecidableEq κ] (kt : TypeId) (kv : κ → Value) : Prop where
  wide : (match P.underlying kt with | some (.array _ _) | some (.struct _) => true | _ => false) = true
  check : ∀ em k w, (checkKey em 10000 kt (kv k)).run P w = .ok () w
  eq : ∀ k k' w, (Op.equal kt (kv k) (kv k')).run P w = .ok (decide (k = k')) w
  bits : ∀ k, sameBits 10000 (kv k) (kv k) = true
section
variable {κ : Type} {kv : κ → Value}
def KMap (kv : κ → Value) (w : World) (b : Nat) (l : List (κ × Value)) : Prop := ∃ es c, w.heap[b]? = some (.map es c) ∧ es.toList.map kvE = l.map fun p => (kv p.1, p.2)
theorem KMap.below {w w' : World} {b : Nat} {l : List (κ × Value)} (h : KMap kv w b l) (hk : w'.heap[b]? = w.heap[b]?) : KMap kv w' b l := let ⟨es, c, h1, h2⟩ := h; ⟨es, c, hk.trans h1, h2⟩
theorem KMap.lt {w : World} {b : Nat} {l : List (κ × Value)} (h : KMap kv w b l) : b < w.heap.size := let ⟨es, c, h1, h2⟩ := h; (Array.getElem?_eq_some_iff.1 h1).1
theorem KMap.made (w : World) : KMap kv (w.alloc (.map #[] 0)) w.heap.size [] := ⟨#[], 0, heap_alloc_new w _, rfl⟩
end
section
variable {κ : Type} [DecidableEq κ] {kv : κ → Value} {P : Program} {kt : TypeId}
/-- what is found under a key -/
def kget (k : κ) : List (κ × Value) → Option Value
  | [] => none
  | p :: l => if k = p.1 then some p.2 else kget k l
def kset (k : κ) (v : Value) : List (κ × Value) → List (κ × Value)
  | [] => [(k, v)]
  | p :: l => if k = p.1 then (k, v) :: l else p :: kset k v l
theorem kset_new {k : κ} {v : Value} : ∀ {l}, kget k l = none → kset k v l = l ++ [(k, v)]
  | [], _ => rfl
  | p :: l, h => by
    simp only [kget] at h
    split at h
    · cases h
    · rename_i hne
      simp only [kset, if_neg hne, List.cons_append]
      rw [kset_new h]
theorem find_ask (K : KeyOf P κ kt kv) (k : κ) (w : World) : ∀ (es : List MapEntry) (l : List (κ × Value)) (j : Nat), es.map kvE = l.map (fun p => (kv p.1, p.2)) →
    (kget k l = none ∧ (findAsking kt (kv k) es j).run P w = .ok none w) ∨
    ∃ v i, kget k l = some v ∧ (findAsking kt (kv k) es j).run P w = .ok (some (j + i, v)) w ∧ (es[i]?).map (·.key) = some (kv k) ∧ ∀ x, (es.modify i fun e => { e with key := kv k, val := x }).map kvE = (kset k x l).map fun p => (kv p.1, p.2)
  | [], [], j, _ => .inl ⟨rfl, by simp [findAsking]⟩
  | [], _ :: _, _, h => by simp at h
  | _ :: _, [], _, h => by simp at h
  | e :: es, p :: l, j, h => by
    simp only [List.map_cons, List.cons.injEq] at h
    obtain ⟨h1, h2⟩ := h
    simp only [kvE, Prod.mk.injEq] at h1
    obtain ⟨hk, hv⟩ := h1
    have hq := K.eq k p.1 w
    by_cases e1 : k = p.1
    · right
      refine ⟨p.2, 0, by simp [kget, e1], ?_, by simp [hk, e1], fun x => ?_⟩
      · rw [findAsking, Sem.run_bind, hk, hq, Result.andThen_ok]
        simp [e1, hv]
      · simp only [List.modify_zero_cons, List.map_cons, kset, if_pos e1, h2]
        simp [kvE]
    · have hd : decide (k = p.1) = false := by simpa using e1
      rw [hd] at hq
      rcases find_ask K k w es l (j + 1) h2 with ⟨g1, g2⟩ | ⟨v, i, g1, g2, g3, g4⟩
      · left
        refine ⟨by simp [kget, e1, g1], ?_⟩
        rw [findAsking, Sem.run_bind, hk, hq, Result.andThen_ok]
        exact g2
      · right
        refine ⟨v, i + 1, by simp [kget, e1, g1], ?_, by simpa using g3, fun x => ?_⟩
        · rw [findAsking, Sem.run_bind, hk, hq, Result.andThen_ok]
          refine g2.trans ?_
          rw [show j + 1 + i = j + (i + 1) by omega]
        · simp only [List.modify_succ_cons, List.map_cons, kset, if_neg e1, g4 x]
          simp [kvE, hk, hv]
theorem run_kmap_one (K : KeyOf P κ kt kv) (w : World) (t et : TypeId) (h : P.underlying t = some (.map kt et)) (b : Nat) (k : κ) (l : List (κ × Value)) (hb : KMap kv w b l) (z : Value) (hz : ∀ w, (zeroValue et).run P w = .ok z w) :
    (Instr.lookup t (.map (some b)) (kv k) false).run P w = .ok ((kget k l).getD z) w := by
  obtain ⟨es, c, h1, h2⟩ := hb
  unfold Instr.lookup
  simp only [Sem.run_bind, run_underlying h, Result.andThen_ok]
  rcases find_ask K k w es.toList l 0 h2 with ⟨g1, g2⟩ | ⟨v, i, g1, g2, -, -⟩
  · simp [getObj, Sem.run, h1, K.check, run_findKey_eq w K.wide, g2, hz, g1]
  · simp [getObj, Sem.run, h1, K.check, run_findKey_eq w K.wide, g2, g1]
theorem wpList_kmap_one (K : KeyOf P κ kt kv) {w : World} {ops : Array Oper} {rest : List Oper} {o : Oper} {a : Act} {Q : Exit → Act → World → Prop} (hgd : o.guard = none) (t : TypeId) (m x : Operand) (ho : o.op = .lookup t m x false) (et : TypeId)
    (h : P.underlying t = some (.map kt et)) (b : Nat) (l : List (κ × Value)) (hm : a.eval m = .map (some b)) (hb : KMap kv w b l) (k : κ) (hn : a.eval x = kv k) (z : Value) (hz : ∀ w, (zeroValue et).run P w = .ok z w)
    (hK : wpList P ops Q rest (a.put o.dst ((kget k l).getD z)) w) : wpList P ops Q (o :: rest) a w := by
  refine wpList_plain hgd fun K' hK' => ?_
  have hrun := run_kmap_one K w t et h b k l hb z hz
  unfold Oper.wp
  simp [execOp, ho, hm, hn, hrun, Result.andThen]
  exact hK' _ _ hK
/-- the same, where a guard stands ahead that lets it be done -/
theorem wpList_kmap_oneG (K : KeyOf P κ kt kv) {w : World} {ops : Array Oper} {rest : List Oper} {o : Oper} {a : Act} {Q : Exit → Act → World → Prop} (hgd : Region.wanted o (yielded ops a.tmps) = true) (t : TypeId) (m x : Operand) (ho : o.op = .lookup t m x false) (et : TypeId)
    (h : P.underlying t = some (.map kt et)) (b : Nat) (l : List (κ × Value)) (hm : a.eval m = .map (some b)) (hb : KMap kv w b l) (k : κ) (hn : a.eval x = kv k) (z : Value) (hz : ∀ w, (zeroValue et).run P w = .ok z w)
    (hK : wpList P ops Q rest (a.put o.dst ((kget k l).getD z)) w) : wpList P ops Q (o :: rest) a w := by
  refine wpList_step fun K0 hK' => ?_
  rw [if_pos hgd]
  have hrun := run_kmap_one K w t et h b k l hb z hz
  unfold Oper.wp
  simp [execOp, ho, hm, hn, hrun, Result.andThen]
  exact hK' _ _ hK
theorem wpList_kmap_set (K : KeyOf P κ kt kv) {w : World} {ops : Array Oper} {rest : List Oper} {o : Oper} {a : Act} {Q : Exit → Act → World → Prop} (hgd : o.guard = none) (t : TypeId) (m x y : Operand) (ho : o.op = .mapUpdate t m x y) (et : TypeId)
    (h : P.underlying t = some (.map kt et)) (b : Nat) (l : List (κ × Value)) (hm : a.eval m = .map (some b)) (hb : KMap kv w b l) (k : κ) (hn : a.eval x = kv k) (v : Value) (hv : a.eval y = v)
    (hK : ∀ w', KMap kv w' b (kset k v l) → w.grownBy w' (some b) → wpList P ops Q rest (a.put o.dst undef) w') : wpList P ops Q (o :: rest) a w := by
  obtain ⟨es, c, h1, h2⟩ := hb
  have hlt := (Array.getElem?_eq_some_iff.1 h1).1
  refine wpList_plain hgd fun K' hK' => ?_
  rcases find_ask K k w es.toList l 0 h2 with ⟨g1, g2⟩ | ⟨v0, i, g1, g2, g3, g4⟩
  · have hrun : (Instr.mapUpdate t (.map (some b)) (kv k) v).run P w = .ok () (World.setObj' w b (.map (es.push ⟨kv k, v, c⟩) (c + 1))) := by
      unfold Instr.mapUpdate
      simp only [Sem.run_bind, run_underlying h, Result.andThen_ok]
      simp [getObj, Sem.run, h1, K.check, run_findKey_eq w K.wide, g2, setObj, World.setObj']
    unfold Oper.wp
    simp [execOp, ho, hm, hn, hv, hrun, Result.andThen]
    refine hK' _ _ (hK _ ⟨_, _, setObj'_at _ _ _ hlt, ?_⟩ (setObj'_grown _ _ _))
    rw [kset_new g1]
    simp [h2, kvE]
  · rw [Nat.zero_add] at g2
    have g3' : (es[i]?).map (·.key) = some (kv k) := by simpa using g3
    have hrun : (Instr.mapUpdate t (.map (some b)) (kv k) v).run P w = .ok () (World.setObj' w b (.map (es.modify i fun e => { e with key := kv k, val := v }) c)) := by
      unfold Instr.mapUpdate
      simp only [Sem.run_bind, run_underlying h, Result.andThen_ok]
      simp [getObj, Sem.run, h1, K.check, run_findKey_eq w K.wide, g2, g3', keyThatStays, K.bits, setObj, World.setObj']
    unfold Oper.wp
    simp [execOp, ho, hm, hn, hv, hrun, Result.andThen]
    refine hK' _ _ (hK _ ⟨_, _, setObj'_at _ _ _ hlt, ?_⟩ (setObj'_grown _ _ _))
    rw [Array.toList_modify]
    exact g4 v
end
section
variable {κ : Type} {kv : κ → Value} {P : Program}
theorem wpList_kmap_len {w : World} {ops : Array Oper} {rest : List Oper} {o : Oper} {a : Act} {Q : Exit → Act → World → Prop} (hgd : o.guard = none) (m : Operand) (t : TypeId) (ho : o.op = .call { callee := .builtin .len, args := #[m], argTypes := #[t] })
    (kt et : TypeId) (h : P.underlying t = some (.map kt et)) (b : Nat) (l : List (κ × Value)) (hm : a.eval m = .map (some b)) (hb : KMap kv w b l)
    (hK : wpList P ops Q rest (a.put o.dst (.int .i64 l.length)) w) : wpList P ops Q (o :: rest) a w := by
  obtain ⟨es, c, h1, h2⟩ := hb
  have hsz : es.size = l.length := by have := congrArg List.length h2; simpa using this
  refine wpList_plain hgd fun K hK' => ?_
  have hrun : (Builtin.len_ #[t] o.type #[.map (some b)]).run P w = .ok (.int .i64 l.length) w := by
    unfold Builtin.len_
    simp [Sem.run_bind, run_underlying h, getObj, Sem.run, h1, hsz]
    rfl
  unfold Oper.wp
  simp [execOp, ho, resolve, invoke, builtin, hm, hrun, Result.andThen]
  exact hK' _ _ hK
end
section
variable {κ : Type} {kv : κ → Value} {P : Program} {kt : TypeId}
/-- the same, each entry born at a time of its own -/
def KMapB (kv : κ → Value) (w : World) (b : Nat) (l : List (κ × Value)) : Prop := ∃ es c, w.heap[b]? = some (.map es c) ∧ (es.toList.map kvE = l.map fun p => (kv p.1, p.2)) ∧ (∀ x ∈ es.toList, x.born < c) ∧ (es.toList.map (·.born)).Nodup
theorem KMapB.kmap {w : World} {b : Nat} {l : List (κ × Value)} (h : KMapB kv w b l) : KMap kv w b l := let ⟨es, c, h1, h2, _⟩ := h; ⟨es, c, h1, h2⟩
theorem KMapB.below {w w' : World} {b : Nat} {l : List (κ × Value)} (h : KMapB kv w b l) (hk : w'.heap[b]? = w.heap[b]?) : KMapB kv w' b l := let ⟨es, c, h1, h2⟩ := h; ⟨es, c, hk.trans h1, h2⟩
theorem KMapB.lt {w : World} {b : Nat} {l : List (κ × Value)} (h : KMapB kv w b l) : b < w.heap.size := h.kmap.lt
theorem KMapB.made (w : World) : KMapB kv (w.alloc (.map #[] 0)) w.heap.size [] := ⟨#[], 0, heap_alloc_new w _, rfl, by simp, by simp⟩
end
section
variable {κ : Type} [DecidableEq κ] {kv : κ → Value} {P : Program} {kt : TypeId}
/-- an entry that is being stored: its key, and when it was born -/
def EnAt (kv : κ → Value) (w : World) (b : Nat) (l : List (κ × Value)) (k : κ) (s : Nat) : Prop := ∃ es c i, w.heap[b]? = some (.map es c) ∧ (∀ x ∈ es.toList, x.born < c) ∧ (es.toList.map (·.born)).Nodup ∧ (es.toList[i]?).map (·.born) = some s ∧
  ∀ x, (es.toList.modify i fun e => { e with val := x }).map kvE = (kset k x l).map fun p => (kv p.1, p.2)
theorem EnAt.below {w w' : World} {b : Nat} {l : List (κ × Value)} {k : κ} {s : Nat} (h : EnAt kv w b l k s) (hk : w'.heap[b]? = w.heap[b]?) : EnAt kv w' b l k s := let ⟨es, c, i, h1, h2⟩ := h; ⟨es, c, i, hk.trans h1, h2⟩
theorem kget_kset (k k' : κ) (v : Value) : ∀ l, kget k' (kset k v l) = if k' = k then some v else kget k' l
  | [] => by simp [kset, kget]
  | p :: l => by
    unfold kset
    by_cases h : k = p.1
    · rw [if_pos h]
      by_cases h2 : k' = k
      · simp [kget, h2]
      · rw [if_neg h2]; simp only [kget, if_neg h2]; rw [if_neg (fun e => h2 (e.trans h.symm))]
    · rw [if_neg h]
      simp only [kget, kget_kset k k' v l]
      by_cases h2 : k' = p.1
      · rw [if_pos h2, if_neg (fun e => h (e.symm.trans h2)), if_pos h2]
      · rw [if_neg h2, if_neg h2]
theorem kget_mem (k : κ) : ∀ l : List (κ × Value), kget k l = none ↔ ¬ k ∈ l.map (·.1)
  | [] => by simp [kget]
  | p :: l => by
    simp only [kget, List.map_cons, List.mem_cons]
    by_cases h : k = p.1
    · rw [if_pos h]; simp [h]
    · rw [if_neg h, kget_mem k l]; simp [h]
theorem kset_keys (k : κ) (v : Value) : ∀ l : List (κ × Value), (kset k v l).map (·.1) = if k ∈ l.map (·.1) then l.map (·.1) else l.map (·.1) ++ [k]
  | [] => by simp [kset]
  | p :: l => by
    unfold kset
    by_cases h : k = p.1
    · rw [if_pos h, if_pos (by simp [h])]; simp [h]
    · rw [if_neg h]
      simp only [List.map_cons, kset_keys k v l, List.mem_cons]
      by_cases h2 : k ∈ l.map (·.1)
      · rw [if_pos h2, if_pos (.inr h2)]
      · rw [if_neg h2, if_neg (by rintro (e | e); exact h e; exact h2 e)]
        rfl
theorem modify_last {α : Type} (f : α → α) (e : α) : ∀ l : List α, (l ++ [e]).modify l.length f = l ++ [f e]
  | [] => rfl
  | x :: l => by simp [modify_last f e l]
theorem wpList_kmap_entry (K : KeyOf P κ kt kv) {w : World} {ops : Array Oper} {rest : List Oper} {o : Oper} {a : Act} {Q : Exit → Act → World → Prop} (hgd : o.guard = none) (t : TypeId) (m x : Operand) (ho : o.op = .mapEntry t m x) (et : TypeId)
    (h : P.underlying t = some (.map kt et)) (b : Nat) (l : List (κ × Value)) (hm : a.eval m = .map (some b)) (hb : KMapB kv w b l) (k : κ) (hn : a.eval x = kv k) (z : Value) (hz : ∀ w, (zeroValue et).run P w = .ok z w)
    (hK : ∀ w' s, EnAt kv w' b l k s → w.grownBy w' (some b) → wpList P ops Q rest (a.put o.dst (.tuple #[(kget k l).getD z, .int .i64 s])) w') : wpList P ops Q (o :: rest) a w := by
  obtain ⟨es, c, h1, h2, h3, h4⟩ := hb
  have hlt := (Array.getElem?_eq_some_iff.1 h1).1
  refine wpList_plain hgd fun K' hK' => ?_
  rcases find_ask K k w es.toList l 0 h2 with ⟨g1, g2⟩ | ⟨v0, i, g1, g2, g3, g4⟩
  · have hrun : (Instr.mapEntry t (.map (some b)) (kv k)).run P w = .ok (.tuple #[z, .int .i64 c]) (World.setObj' w b (.map (es.push ⟨kv k, z, c⟩) (c + 1))) := by
      unfold Instr.mapEntry
      simp only [Sem.run_bind, run_underlying h, Result.andThen_ok]
      simp [getObj, Sem.run, h1, K.check, run_findKey_eq w K.wide, g2, hz, setObj, World.setObj', goInt]
    unfold Oper.wp
    simp [execOp, ho, hm, hn, hrun, Result.andThen]
    refine hK' _ _ ?_
    have := hK (World.setObj' w b (.map (es.push ⟨kv k, z, c⟩) (c + 1))) c ⟨_, _, es.size, setObj'_at _ _ _ hlt, ?_, ?_, ?_, ?_⟩ (setObj'_grown _ _ _)
    · rw [g1] at this
      exact this
    · intro x hx
      simp only [Array.toList_push, List.mem_append, List.mem_singleton] at hx
      rcases hx with hx | rfl
      · have := h3 x hx; omega
      · simp
    · simp only [Array.toList_push, List.map_append, List.map_cons, List.map_nil]
      refine List.nodup_append.2 ⟨h4, by simp, fun x hx y hy => ?_⟩
      simp only [List.mem_map] at hx
      obtain ⟨z, hz, rfl⟩ := hx
      have := h3 z hz
      simp only [List.mem_singleton] at hy
      omega
    · simp [Array.toList_push, ← Array.length_toList]
    · intro x
      rw [kset_new g1, Array.toList_push, ← Array.length_toList, modify_last]
      simp [h2, kvE]
  · rw [Nat.zero_add] at g2
    have g3' : (es[i]?).map (·.key) = some (kv k) := by simpa using g3
    obtain ⟨ei, hei, hek⟩ : ∃ e, es.toList[i]? = some e ∧ e.key = kv k := by
      cases he : es.toList[i]? with
      | none => rw [he] at g3; simp at g3
      | some e => rw [he] at g3; exact ⟨e, rfl, by simpa using g3⟩
    have hei' : es[i]? = some ei := by simpa using hei
    have hrun : (Instr.mapEntry t (.map (some b)) (kv k)).run P w = .ok (.tuple #[v0, .int .i64 ei.born]) (World.setObj' w b (.map (es.modify i fun e => { e with key := kv k }) c)) := by
      unfold Instr.mapEntry
      simp only [Sem.run_bind, run_underlying h, Result.andThen_ok]
      simp [getObj, Sem.run, h1, K.check, run_findKey_eq w K.wide, g2, hei', hek, keyThatStays, K.bits, setObj, World.setObj', goInt]
    unfold Oper.wp
    simp [execOp, ho, hm, hn, hrun, Result.andThen]
    refine hK' _ _ ?_
    have hmod : (es.modify i fun e => { e with key := kv k }).toList = es.toList := by
      rw [Array.toList_modify]
      apply List.ext_getElem? 
      intro j
      rw [List.getElem?_modify]
      by_cases e : i = j
      · subst e; rw [hei]; simp [← hek]
      · simp [e]
    have := hK (World.setObj' w b (.map (es.modify i fun e => { e with key := kv k }) c)) ei.born ⟨_, _, i, setObj'_at _ _ _ hlt, by rw [hmod]; exact h3, by rw [hmod]; exact h4, by rw [hmod, hei]; rfl, fun x => ?_⟩ (setObj'_grown _ _ _)
    · rw [g1] at this
      exact this
    · rw [hmod, ← g4 x]
      congr 1
      apply List.ext_getElem?
      intro j
      rw [List.getElem?_modify, List.getElem?_modify]
      by_cases e : i = j
      · subst e; rw [hei]; simp [← hek]
      · simp [e]
theorem wpList_kmap_estore {w : World} {ops : Array Oper} {rest : List Oper} {o : Oper} {a : Act} {Q : Exit → Act → World → Prop} (hgd : o.guard = none) (t : TypeId) (m x y : Operand) (ho : o.op = .entryStore t m x y)
    (b : Nat) (l : List (κ × Value)) (hm : a.eval m = .map (some b)) (k : κ) (s : Nat) (hb : EnAt kv w b l k s) (hn : a.eval x = .int .i64 s) (v : Value) (hv : a.eval y = v)
    (hK : ∀ w', KMapB kv w' b (kset k v l) → w.grownBy w' (some b) → wpList P ops Q rest (a.put o.dst undef) w') : wpList P ops Q (o :: rest) a w := by
  obtain ⟨es, c, i, h1, h3, h4, h5, h6⟩ := hb
  have hlt := (Array.getElem?_eq_some_iff.1 h1).1
  refine wpList_plain hgd fun K' hK' => ?_
  have hi : i < es.size := by
    cases he : es.toList[i]? with
    | none => rw [he] at h5; simp at h5
    | some e => have := (List.getElem?_eq_some_iff.1 he).1; simpa using this
  have hbo : es[i].born = s := by
    have e : es.toList[i]? = some es[i] := by simp [hi]
    rw [e] at h5; simpa using h5
  have hf : es.findIdx? (fun e => (e.born : Int) == (s : Int)) = some i := by
    rw [Array.findIdx?_eq_some_iff_getElem]
    refine ⟨hi, by simp [hbo], fun j hj => ?_⟩
    have hne : es[j].born ≠ s := by
      intro e
      have hjs : j < es.size := by omega
      have n1 : (es.toList.map (·.born))[j]'(by simpa using hjs) = (es.toList.map (·.born))[i]'(by simpa using hi) := by simp [e, hbo]
      have := (List.getElem_inj h4).1 n1
      omega
    simpa using fun e : ((es[j].born : Nat) : Int) = s => hne (by omega)
  have hrun : (Instr.entryStore t (.map (some b)) (.int .i64 s) v).run P w = .ok () (World.setObj' w b (.map (es.modify i fun e => { e with val := v }) c)) := by
    unfold Instr.entryStore
    simp [Sem.run_bind, getObj, Sem.run, h1, asInt, asIntOf, hf, setObj, World.setObj']
  unfold Oper.wp
  simp [execOp, ho, hm, hn, hv, hrun, Result.andThen]
  refine hK' _ _ (hK _ ⟨_, _, setObj'_at _ _ _ hlt, ?_, ?_, ?_⟩ (setObj'_grown _ _ _))
  · rw [Array.toList_modify]
    exact h6 v
  · rw [Array.toList_modify]
    intro x hx
    obtain ⟨j, hj, rfl⟩ := List.mem_iff_getElem.1 hx
    rw [List.getElem_modify]
    have hj' : j < es.toList.length := by simpa using hj
    have := h3 _ (List.getElem_mem hj')
    split <;> exact this
  · rw [Array.toList_modify]
    have : (es.toList.modify i fun e => { e with val := v }).map (·.born) = es.toList.map (·.born) := by
      apply List.ext_getElem (by simp)
      intro j h1 h2
      simp only [List.getElem_map, List.getElem_modify]
      split <;> rfl
    rw [this]; exact h4
end
end Go.Proofs.Ytcmgfelbbmeanaa.Maps
