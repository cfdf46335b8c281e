
/-
  Maps that the call itself makes, with numbers or texts as keys: a new entry, a look. Plain laws over any program.
-/
import Derived.WalkKit
import Derived.OwnWalk
namespace Go.Proofs.Ytilmfkpflecghaa.Maps
open Go Go.RowKit Go.Instr

def plainKey : TypeDesc → Bool
  | .int _ => true
  | .string => true
  | _ => false

theorem run_checkKey {P : Program} (w : World) (b : Bool) (n : Nat) (t : TypeId) (d : TypeDesc) (h : P.underlying t = some d) (hp : plainKey d = true) (v : Value) : (checkKey b (n + 1) t v).run P w = .ok () w := by
  unfold checkKey
  simp only [Sem.run_bind, run_underlying h, Result.andThen_ok]
  cases d <;> simp [plainKey] at hp <;> rfl

theorem run_findKey {P : Program} (w : World) (t : TypeId) (d : TypeDesc) (h : P.underlying t = some d) (k : Value) (es : List MapEntry) (r : Option (Nat × Value)) (hf : findNow d k es 0 = some r) : (findKey t k es).run P w = .ok r w := by
  unfold findKey
  simp [Sem.run_bind, run_underlying h, hf]

def World.setObj' (w : World) (b : Nat) (o : Obj) : World := { w with heap := w.heap.setIfInBounds b o }
theorem setObj'_at (w : World) (b : Nat) (o : Obj) (h : b < w.heap.size) : (World.setObj' w b o).heap[b]? = some o := by simp [World.setObj', h]
theorem setObj'_grown (w : World) (b : Nat) (o : Obj) : w.grownBy (World.setObj' w b o) (some b) :=
  ⟨rfl, rfl, rfl, by simp [World.setObj'], fun k _ hk => by simp only [World.setObj']; rw [Array.getElem?_setIfInBounds, if_neg (by intro e; exact hk (by rw [e]))]⟩

theorem run_insert_new {P : Program} (w : World) (t kt et : TypeId) (d : TypeDesc) (h : P.underlying t = some (.map kt et)) (hk : P.underlying kt = some d) (hp : plainKey d = true) (b : Nat) (key val : Value) (es : Array MapEntry) (c : Nat)
    (hb : w.heap[b]? = some (.map es c)) (hf : findNow d key es.toList 0 = some none) : (Instr.mapUpdate t (.map (some b)) key val).run P w = .ok () (World.setObj' w b (.map (es.push ⟨key, val, c⟩) (c + 1))) := by
  unfold Instr.mapUpdate
  simp only [Sem.run_bind, run_underlying h, Result.andThen_ok]
  simp [getObj, Sem.run, hb, run_checkKey w false 9999 kt d hk hp key, run_findKey w kt d hk key es.toList none hf, setObj, World.setObj']

theorem wpList_insert_new {P : Program} {w : World} {ops : Array Oper} {rest : List Oper} {o : Oper} {a : Act} {Q : Exit → Act → World → Prop} (hgd : o.guard = none) (t : TypeId) (m k x : Operand) (ho : o.op = .insert t m k x) (kt et : TypeId) (d : TypeDesc)
    (h : P.underlying t = some (.map kt et)) (hk : P.underlying kt = some d) (hp : plainKey d = true) (b : Nat) (es : Array MapEntry) (c : Nat) (hm : a.eval m = .map (some b)) (hb : w.heap[b]? = some (.map es c)) (hf : findNow d (a.eval k) es.toList 0 = some none)
    (hK : ∀ w', w'.heap[b]? = some (.map (es.push ⟨a.eval k, a.eval x, c⟩) (c + 1)) → w.grownBy w' (some b) → wpList P ops Q rest (a.put o.dst undef) w') : wpList P ops Q (o :: rest) a w := by
  refine wpList_plain hgd fun K hK' => ?_
  have hrun := run_insert_new (P := P) w t kt et d h hk hp b (a.eval k) (a.eval x) es c hb hf
  unfold Oper.wp
  simp [execOp, ho, hm, hrun, Result.andThen]
  exact hK' _ _ (hK _ (setObj'_at _ _ _ (Array.getElem?_eq_some_iff.1 hb).1) (setObj'_grown _ _ _))

theorem run_lookup_now {P : Program} (w : World) (t kt et : TypeId) (d : TypeDesc) (h : P.underlying t = some (.map kt et)) (hk : P.underlying kt = some d) (hp : plainKey d = true) (b : Nat) (key : Value) (es : Array MapEntry) (c : Nat)
    (hb : w.heap[b]? = some (.map es c)) (r : Option (Nat × Value)) (hf : findNow d key es.toList 0 = some r) (z : Value) (hz : ∀ w, (zeroValue et).run P w = .ok z w) :
    (Instr.lookup t (.map (some b)) key true).run P w = .ok (.tuple #[(r.map (·.2)).getD z, .bool r.isSome]) w := by
  unfold Instr.lookup
  simp only [Sem.run_bind, run_underlying h, Result.andThen_ok]
  cases r with
  | none => simp [getObj, Sem.run, hb, run_checkKey w _ 9999 kt d hk hp key, run_findKey w kt d hk key es.toList none hf, hz]
  | some r => simp [getObj, Sem.run, hb, run_checkKey w _ 9999 kt d hk hp key, run_findKey w kt d hk key es.toList (some r) hf]

theorem wpList_lookup_now {P : Program} {w : World} {ops : Array Oper} {rest : List Oper} {o : Oper} {a : Act} {Q : Exit → Act → World → Prop} (hgd : o.guard = none) (t : TypeId) (m k : Operand) (ho : o.op = .lookup t m k true) (kt et : TypeId) (d : TypeDesc)
    (h : P.underlying t = some (.map kt et)) (hk : P.underlying kt = some d) (hp : plainKey d = true) (b : Nat) (es : Array MapEntry) (c : Nat) (hm : a.eval m = .map (some b)) (hb : w.heap[b]? = some (.map es c)) (r : Option (Nat × Value))
    (hf : findNow d (a.eval k) es.toList 0 = some r) (z : Value) (hz : ∀ w, (zeroValue et).run P w = .ok z w)
    (hK : wpList P ops Q rest (a.put o.dst (.tuple #[(r.map (·.2)).getD z, .bool r.isSome])) w) : wpList P ops Q (o :: rest) a w := by
  refine wpList_plain hgd fun K hK' => ?_
  have hrun := run_lookup_now (P := P) w t kt et d h hk hp b (a.eval k) es c hb r hf z hz
  unfold Oper.wp
  simp [execOp, ho, hm, hrun, Result.andThen]
  exact hK' _ _ hK
/-- a map that is being filled: block b holds these entries; what was there at first is as it was -/
structure Filled (w0 : World) (b : Nat) (es : Array MapEntry) (c : Nat) (w : World) : Prop where
  at_ : w.heap[b]? = some (.map es c)
  low : w0.heap.size ≤ b
  bel : Below w0.heap.size w0 w

theorem wpList_map_start {P : Program} {w : World} {ops : Array Oper} {rest : List Oper} {o : Oper} {a : Act} {Q : Exit → Act → World → Prop} (hgd : o.guard = none) (t : TypeId) (ho : o.op = .makeMap t none) (w0 : World) (h0 : Below w0.heap.size w0 w)
    (hK : ∀ b w', Filled w0 b #[] 0 w' → wpList P ops Q rest (a.put o.dst (.map (some b))) w') : wpList P ops Q (o :: rest) a w := by
  refine wpList_plain hgd fun K hK' => ?_
  have hrun := run_makeMap (P := P) t w
  unfold Oper.wp
  simp [execOp, ho, hrun, Result.andThen]
  exact hK' _ _ (hK _ _ ⟨heap_alloc_new w _, h0.size, h0.alloc h0.size _⟩)

theorem wpList_map_fill {P : Program} {w : World} {ops : Array Oper} {rest : List Oper} {o : Oper} {a : Act} {Q : Exit → Act → World → Prop} (hgd : o.guard = none) (t : TypeId) (m k x : Operand) (ho : o.op = .insert t m k x) (kt et : TypeId) (d : TypeDesc)
    (h : P.underlying t = some (.map kt et)) (hk : P.underlying kt = some d) (hp : plainKey d = true) (w0 : World) (b : Nat) (es : Array MapEntry) (c : Nat) (hm : a.eval m = .map (some b)) (hF : Filled w0 b es c w) (hf : findNow d (a.eval k) es.toList 0 = some none)
    (hK : ∀ w', Filled w0 b (es.push ⟨a.eval k, a.eval x, c⟩) (c + 1) w' → wpList P ops Q rest (a.put o.dst undef) w') : wpList P ops Q (o :: rest) a w :=
  wpList_insert_new hgd t m k x ho kt et d h hk hp b es c hm hF.at_ hf fun w' h1 h2 => hK w' ⟨h1, hF.low, hF.bel.grown h2 hF.bel.size fun k e => by cases e; exact hF.low⟩

end Go.Proofs.Ytilmfkpflecghaa.Maps
