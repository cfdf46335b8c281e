
/-
  Maps whose key is a name and a number of arguments: how keys are compared, found and put. Plain laws over the program's table of types.
-/
import Derived.Test.YtmlceamcpelklaaGnb
import Derived.ChangeKeysEq
import Derived.WideKeyRuns
import Derived.Laws.StructEq
namespace Go.Proofs.Ytmlceamcpelklaa.Tms
open Go Go.RowKit Go.Proofs.Ytmlceamcpelklaa.Reg Go.Proofs.Ytmlceamcpelklaa.Maps Go.Instr
set_option linter.unusedVariables false

abbrev keyV (s : ByteArray) (n : Int) : Value := .agg #[.string s, .int .i64 n]
theorem plain_str : Try.prog.plainKey 9 = true := by kernel_rfl
theorem plain_int : Try.prog.plainKey 3 = true := by kernel_rfl
theorem notStood : Try.prog.stoodInHeld 95 = false := by kernel_rfl
theorem run_p1 (s : ByteArray) (n : Int) (w : World) : (part 9 #[.string s, .int .i64 n] 0).run Try.prog w = .ok (.string s) w := run_part_plain w plain_str rfl
theorem run_p2 (s : ByteArray) (n : Int) (w : World) : (part 3 #[.string s, .int .i64 n] 1).run Try.prog w = .ok (.int .i64 n) w := run_part_plain w plain_int rfl
theorem run_eqKey (s s' : ByteArray) (n n' : Int) (w : World) : (Op.equal 95 (keyV s n) (keyV s' n')).run Try.prog w = .ok (s.toList == s'.toList && n == n') w := by
  unfold Op.equal Op.maxDepth
  rw [run_equalIn_struct w 9999 _ _ _ (by kernel_rfl) notStood]
  simp only [Program.fieldsOf, Try.underlying95]
  simp [Op.eqFields, Sem.run_bind, run_p1, run_p2, run_equalIn_string w 9998 9 s s' Try.underlying9, run_equalIn_int w 9998 3 .i64 .i64 n n' Try.underlying3]
  cases hs : (s.toList == s'.toList) <;> cases hn : (n == n') <;> simp_all
theorem run_checkK (em : Bool) (s : ByteArray) (n : Int) (w : World) : (checkKey em 10000 95 (keyV s n)).run Try.prog w = .ok () w := by
  have c1 : ∀ v w, (checkKey em 9999 9 v).run Try.prog w = .ok () w := fun v w => run_checkKey w em 9998 _ _ Try.underlying9 rfl v
  have c2 : ∀ v w, (checkKey em 9999 3 v).run Try.prog w = .ok () w := fun v w => run_checkKey w em 9998 _ _ Try.underlying3 rfl v
  rw [show (10000 : Nat) = 9999 + 1 from rfl]
  unfold checkKey
  simp only [Sem.run_bind, run_underlying Try.underlying95, Result.andThen_ok]
  generalize (9999 : Nat) = d at *
  simp [Sem.run_bind, run_p1, run_p2, c1, c2]

def isKey (s : ByteArray) (n : Int) : Value → Bool
  | .agg cs => (match (cs[0]? : Option Value) with | some (Value.string s') => s.toList == s'.toList | _ => false) && (match (cs[1]? : Option Value) with | some (Value.int _ n') => n == n' | _ => false)
  | _ => false
theorem isKey_key (s s' : ByteArray) (n n' : Int) : isKey s n (keyV s' n') = (s.toList == s'.toList && n == n') := rfl
/-- what is found under a key: where, and what -/
def lookE (s : ByteArray) (n : Int) : List MapEntry → Nat → Option (Nat × Value)
  | [], _ => none
  | e :: es, i => if isKey s n e.key then some (i, e.val) else lookE s n es (i + 1)
/-- all keys are a name and a number -/
def KeyEs (es : List MapEntry) : Prop := ∀ e ∈ es, ∃ s n, e.key = keyV s n
theorem run_askK (s : ByteArray) (n : Int) (w : World) : ∀ (es : List MapEntry) (i : Nat), KeyEs es → (findAsking 95 (keyV s n) es i).run Try.prog w = .ok (lookE s n es i) w
  | [], i, _ => by simp [findAsking, lookE]
  | e :: es, i, h => by
    obtain ⟨s', n', he⟩ := h e (by simp)
    obtain ⟨k, v, b⟩ := e
    simp only at he
    subst he
    have hb := isKey_key s s' n n'
    have ih := run_askK s n w es (i + 1) fun e he => h e (List.mem_cons_of_mem _ he)
    rw [findAsking, Sem.run_bind, run_eqKey, Result.andThen_ok]
    show _ = Result.ok (if isKey s n (keyV s' n') = true then some (i, v) else lookE s n es (i + 1)) w
    rw [hb]
    cases (s.toList == s'.toList && n == n')
    · rw [if_neg (by decide), if_neg (by decide)]
      exact ih
    · simp
theorem run_findK (s : ByteArray) (n : Int) (w : World) (es : List MapEntry) (h : KeyEs es) : (findKey 95 (keyV s n) es).run Try.prog w = .ok (lookE s n es 0) w := by
  rw [run_findKey_eq w (by kernel_rfl)]
  exact run_askK s n w es 0 h
theorem run_putK (w : World) (b : Nat) (s : ByteArray) (n : Int) (val : Value) (es : Array MapEntry) (c : Nat) (hb : w.heap[b]? = some (.map es c)) (hk : KeyEs es.toList) (hf : lookE s n es.toList 0 = none) :
    (Instr.mapUpdate 96 (.map (some b)) (keyV s n) val).run Try.prog w = .ok () (World.setObj' w b (.map (es.push ⟨keyV s n, val, c⟩) (c + 1))) := by
  unfold Instr.mapUpdate
  simp only [Sem.run_bind, run_underlying Try.underlying96, Result.andThen_ok]
  simp [getObj, Sem.run, hb, run_checkK, run_findK _ _ _ _ hk, hf, setObj, World.setObj']
theorem run_lookK (w : World) (b : Nat) (s : ByteArray) (n : Int) (es : Array MapEntry) (c : Nat) (hb : w.heap[b]? = some (.map es c)) (hk : KeyEs es.toList) :
    (Instr.lookup 96 (.map (some b)) (keyV s n) false).run Try.prog w = .ok ((lookE s n es.toList 0).elim (.int .i64 0) (·.2)) w := by
  have hz : ∀ w, (zeroValue 3).run Try.prog w = .ok (.int .i64 0) w := fun w => by kernel_rfl
  unfold Instr.lookup
  simp only [Sem.run_bind, run_underlying Try.underlying96, Result.andThen_ok]
  cases hl : lookE s n es.toList 0 with
  | none => simp [getObj, Sem.run, hb, run_checkK, run_findK _ _ _ _ hk, hl, hz]
  | some r => simp [getObj, Sem.run, hb, run_checkK, run_findK _ _ _ _ hk, hl]
theorem wpList_lookK {w : World} {ops : Array Oper} {rest : List Oper} {o : Oper} {a : Act} {Q : Exit → Act → World → Prop} (hgd : o.guard = none) (m k : Operand) (ho : o.op = .lookup 96 m k false)
    (b : Nat) (s : ByteArray) (n : Int) (es : Array MapEntry) (c : Nat) (hm : a.eval m = .map (some b)) (hkv : a.eval k = keyV s n) (hb : w.heap[b]? = some (.map es c)) (hk : KeyEs es.toList)
    (hK : wpList Try.prog ops Q rest (a.put o.dst ((lookE s n es.toList 0).elim (.int .i64 0) (·.2))) w) : wpList Try.prog ops Q (o :: rest) a w := by
  refine wpList_plain hgd fun K hK' => ?_
  have hrun := run_lookK w b s n es c hb hk
  unfold Oper.wp
  simp [execOp, ho, hm, hkv, hrun, Result.andThen]
  exact hK' _ _ hK
theorem wpList_insK {w : World} {ops : Array Oper} {rest : List Oper} {o : Oper} {a : Act} {Q : Exit → Act → World → Prop} (hgd : o.guard = none) (m k x : Operand) (ho : o.op = .insert 96 m k x)
    (b : Nat) (s : ByteArray) (n : Int) (es : Array MapEntry) (c : Nat) (hm : a.eval m = .map (some b)) (hkv : a.eval k = keyV s n) (hb : w.heap[b]? = some (.map es c)) (hk : KeyEs es.toList) (hf : lookE s n es.toList 0 = none)
    (hK : ∀ w', w'.heap[b]? = some (.map (es.push ⟨keyV s n, a.eval x, c⟩) (c + 1)) → w.grownBy w' (some b) → wpList Try.prog ops Q rest (a.put o.dst undef) w') : wpList Try.prog ops Q (o :: rest) a w := by
  refine wpList_plain hgd fun K hK' => ?_
  have hrun := run_putK w b s n (a.eval x) es c hb hk hf
  unfold Oper.wp
  simp [execOp, ho, hm, hkv, hrun, Result.andThen]
  exact hK' _ _ (hK _ (setObj'_at _ _ _ (Array.getElem?_eq_some_iff.1 hb).1) (setObj'_grown _ _ _))
end Go.Proofs.Ytmlceamcpelklaa.Tms
