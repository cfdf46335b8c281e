
/-
  Layer 17: atom, whole, empty; a map's value asked for without 'ok'.
-/
import Derived.Test.YtkhchmgdaolojaaShs
import Derived.Test.YtkhchmgdaolojaaSha
namespace Go.Proofs.Ytkhchmgdaolojaa.Tms
open Go Go.RowKit Go.Proofs.Ytkhchmgdaolojaa.Reg Go.Proofs.Ytkhchmgdaolojaa.Rws Go.Proofs.Ytkhchmgdaolojaa.Maps Go.Instr
set_option linter.unusedVariables false
set_option linter.unusedSimpArgs false

theorem sh_atom (s : ByteArray) (w : World) : Calls Try.prog 107 #[.string s] w (fun e w' => e = .returned (.agg #[.int .i64 3, .int .i64 0, .string s, .slice none 0 0]) ∧ Below w.heap.size w w') := by
  go_enter Try.func107, Try.ntmps107
  go_wp2
  exact bodyPost_ret (v := .agg #[.int .i64 3, .int .i64 0, .string s, .slice none 0 0]) (results_cell_row Try.results107 _ _ w.heap.size _ _ _ _ rfl (heap_alloc_new w _) Try.underlying49 rfl (by kernel_rfl)) rfl ⟨rfl, (Below.refl _ _).alloc (Nat.le_refl _) _⟩
theorem sh_whole (n : Int) (w : World) : Calls Try.prog 109 #[.int .i64 n] w (fun e w' => e = .returned (.agg #[.int .i64 2, .int .i64 n, .string ⟨#[]⟩, .slice none 0 0]) ∧ Below w.heap.size w w') := by
  go_enter Try.func109, Try.ntmps109
  go_wp2
  exact bodyPost_ret (v := .agg #[.int .i64 2, .int .i64 n, .string ⟨#[]⟩, .slice none 0 0]) (results_cell_row Try.results109 _ _ w.heap.size _ _ _ _ rfl (heap_alloc_new w _) Try.underlying49 rfl (by kernel_rfl)) rfl ⟨rfl, (Below.refl _ _).alloc (Nat.le_refl _) _⟩
theorem run_lookup_val {P : Program} (w : World) (t kt et : TypeId) (d : TypeDesc) (h : P.underlying t = some (.map kt et)) (hk : P.underlying kt = some d) (hp : plainKey d = true) (b : Nat) (key : Value) (es : Array MapEntry) (c : Nat)
    (hb : w.heap[b]? = some (.map es c)) (r : Nat × Value) (hf : findNow d key es.toList 0 = some (some r)) :
    (Instr.lookup t (.map (some b)) key false).run P w = .ok r.2 w := by
  unfold Instr.lookup
  simp only [Sem.run_bind, run_underlying h, Result.andThen_ok]
  simp [getObj, Sem.run, hb, run_checkKey w _ 9999 kt d hk hp key, run_findKey w kt d hk key es.toList (some r) hf]
theorem wpList_lookup_val {P : Program} {w : World} {ops : Array Oper} {rest : List Oper} {o : Oper} {a : Act} {Q : Exit → Act → World → Prop} (hgd : o.guard = none) (t : TypeId) (m k : Operand) (ho : o.op = .lookup t m k false) (kt et : TypeId) (d : TypeDesc)
    (h : P.underlying t = some (.map kt et)) (hk : P.underlying kt = some d) (hp : plainKey d = true) (b : Nat) (es : Array MapEntry) (c : Nat) (hm : a.eval m = .map (some b)) (hb : w.heap[b]? = some (.map es c)) (r : Nat × Value)
    (hf : findNow d (a.eval k) es.toList 0 = some (some r))
    (hK : wpList P ops Q rest (a.put o.dst r.2) w) : wpList P ops Q (o :: rest) a w := by
  refine wpList_plain hgd fun K hK' => ?_
  have hrun := run_lookup_val (P := P) w t kt et d h hk hp b (a.eval k) es c hb r hf
  unfold Oper.wp
  simp [execOp, ho, hm, hrun, Result.andThen]
  exact hK' _ _ hK
end Go.Proofs.Ytkhchmgdaolojaa.Tms
