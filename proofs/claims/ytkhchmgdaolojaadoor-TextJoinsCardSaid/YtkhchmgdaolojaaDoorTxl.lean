
/-
  Layer 16: Does; Do of each name.
-/
import Derived.Test.YtkhchmgdaolojaaDoorTxh
import Derived.Test.YtkhchmgdaolojaaDoorTxi
import Derived.Test.YtkhchmgdaolojaaDoorTxj
import Derived.Test.YtkhchmgdaolojaaDoorTxk
import Derived.Test.YtkhchmgdaolojaaDoorMsd
namespace Go.Proofs.YtkhchmgdaolojaaDoor.Tms
open Go Go.RowKit Go.Proofs.YtkhchmgdaolojaaDoor.Reg Go.Proofs.YtkhchmgdaolojaaDoor.Rws Go.Proofs.YtkhchmgdaolojaaDoor.Maps Go.Instr
set_option linter.unusedVariables false
set_option linter.unusedSimpArgs false

theorem run_lookup_val {P : Program} (w : World) (t kt et : TypeId) (d : TypeDesc) (h : P.underlying t = some (.map kt et)) (hk : P.underlying kt = some d) (hp : plainKey d = true) (b : Nat) (key : Value) (es : Array MapEntry) (c : Nat)
    (hb : w.heap[b]? = some (.map es c)) (r : Nat × Value) (hf : findNow d key es.toList 0 = some (some r)) :
    (Instr.lookup t (.map (some b)) key false).run P w = .ok r.2 w := by
  unfold Instr.lookup
  simp only [Sem.run_bind, run_underlying h, Result.andThen_ok]
  simp [getObj, Sem.run, hb, run_checkKey w _ 9999 kt d hk hp key, run_findKey w kt d hk key es.toList (some r) hf]
theorem wpList_lookup_val {P : Program} {w : World} {ops : Array Oper} {rest : List Oper} {o : Oper} {a : Act} {Q : Exit → Act → World → Prop} (hgd : o.guard = none) (t : TypeId) (m k : Operand) (ho : o.op = .lookup t m k false) (kt et : TypeId) (d : TypeDesc)
    (h : P.underlying t = some (.map kt et)) (hk : P.underlying kt = some d) (hp : plainKey d = true) (b : Nat) (es : Array MapEntry) (c : Nat) (hm : a.eval m = .map (some b)) (hb : w.heap[b]? = some (.map es c)) (r : Nat × Value)
    (hf : findNow d (a.eval k) es.toList 0 = some (some r))
    (hK : wpList P ops Q rest (a.put o.dst r.2) w) : wpList P ops Q (o :: rest) a w := by
  refine wpList_plain hgd fun K hK' => ?_
  have hrun := run_lookup_val (P := P) w t kt et d h hk hp b (a.eval k) es c hb r hf
  unfold Oper.wp
  simp [execOp, ho, hm, hrun, Result.andThen]
  exact hK' _ _ hK
/-- whether there is such a builtin -/
def doesT (s : ByteArray) (n : Nat) : Bool := if s = ⟨#[97, 116, 111, 109, 95, 108, 101, 110, 103, 116, 104]⟩ ∨ s = ⟨#[97, 116, 111, 109, 95, 99, 104, 97, 114, 115]⟩ ∨ s = ⟨#[97, 116, 111, 109, 95, 99, 111, 100, 101, 115]⟩ ∨ s = ⟨#[99, 104, 97, 114, 95, 99, 111, 100, 101]⟩ ∨ s = ⟨#[110, 117, 109, 98, 101, 114, 95, 99, 111, 100, 101, 115]⟩ then (n : Int) == 2 else if s = ⟨#[97, 116, 111, 109, 95, 99, 111, 110, 99, 97, 116]⟩ then (n : Int) == 3 else false
theorem tx_Does (s : ByteArray) (n : Nat) (w : World) : Calls Tryd.prog 14 #[.string s, .int .i64 n] w (fun e w' => e = .returned (.bool (doesT s n)) ∧ w = w') := by
  by_cases k0 : s = ⟨#[97, 116, 111, 109, 95, 108, 101, 110, 103, 116, 104]⟩
  · have hd : doesT s n = ((n : Int) == 2) := by unfold doesT; rw [if_pos (by simp [k0])]
    rw [hd]
    clear hd 
    subst k0
    go_enter Tryd.func14, Tryd.ntmps14
    go_wp2
    go_ret
    exact ⟨rfl, rfl⟩
  by_cases k1 : s = ⟨#[97, 116, 111, 109, 95, 99, 104, 97, 114, 115]⟩
  · have hd : doesT s n = ((n : Int) == 2) := by unfold doesT; rw [if_pos (by simp [k1])]
    rw [hd]
    clear hd k0
    subst k1
    go_enter Tryd.func14, Tryd.ntmps14
    go_wp2
    go_ret
    exact ⟨rfl, rfl⟩
  by_cases k2 : s = ⟨#[97, 116, 111, 109, 95, 99, 111, 100, 101, 115]⟩
  · have hd : doesT s n = ((n : Int) == 2) := by unfold doesT; rw [if_pos (by simp [k2])]
    rw [hd]
    clear hd k0 k1
    subst k2
    go_enter Tryd.func14, Tryd.ntmps14
    go_wp2
    go_ret
    exact ⟨rfl, rfl⟩
  by_cases k3 : s = ⟨#[99, 104, 97, 114, 95, 99, 111, 100, 101]⟩
  · have hd : doesT s n = ((n : Int) == 2) := by unfold doesT; rw [if_pos (by simp [k3])]
    rw [hd]
    clear hd k0 k1 k2
    subst k3
    go_enter Tryd.func14, Tryd.ntmps14
    go_wp2
    go_ret
    exact ⟨rfl, rfl⟩
  by_cases k4 : s = ⟨#[110, 117, 109, 98, 101, 114, 95, 99, 111, 100, 101, 115]⟩
  · have hd : doesT s n = ((n : Int) == 2) := by unfold doesT; rw [if_pos (by simp [k4])]
    rw [hd]
    clear hd k0 k1 k2 k3
    subst k4
    go_enter Tryd.func14, Tryd.ntmps14
    go_wp2
    go_ret
    exact ⟨rfl, rfl⟩
  have hn : ¬ (s = ⟨#[97, 116, 111, 109, 95, 108, 101, 110, 103, 116, 104]⟩ ∨ s = ⟨#[97, 116, 111, 109, 95, 99, 104, 97, 114, 115]⟩ ∨ s = ⟨#[97, 116, 111, 109, 95, 99, 111, 100, 101, 115]⟩ ∨ s = ⟨#[99, 104, 97, 114, 95, 99, 111, 100, 101]⟩ ∨ s = ⟨#[110, 117, 109, 98, 101, 114, 95, 99, 111, 100, 101, 115]⟩) := by simp only [not_or]; exact ⟨k0, k1, k2, k3, k4⟩
  by_cases k5 : s = ⟨#[97, 116, 111, 109, 95, 99, 111, 110, 99, 97, 116]⟩
  · have hd : doesT s n = ((n : Int) == 3) := by unfold doesT; rw [if_neg hn, if_pos k5]
    rw [hd]
    clear hd hn k0 k1 k2 k3 k4
    subst k5
    go_enter Tryd.func14, Tryd.ntmps14
    go_wp2
    go_ret
    exact ⟨rfl, rfl⟩
  · have hd : doesT s n = false := by unfold doesT; rw [if_neg hn, if_neg k5]
    have c5 : (s.toList == [97, 116, 111, 109, 95, 99, 111, 110, 99, 97, 116]) = false := Num.bytes_no (l := [97, 116, 111, 109, 95, 99, 111, 110, 99, 97, 116]) k5
    rw [hd]
    clear hd hn k5
    have c0 : (s.toList == [97, 116, 111, 109, 95, 108, 101, 110, 103, 116, 104]) = false := Num.bytes_no (l := [97, 116, 111, 109, 95, 108, 101, 110, 103, 116, 104]) k0
    have c1 : (s.toList == [97, 116, 111, 109, 95, 99, 104, 97, 114, 115]) = false := Num.bytes_no (l := [97, 116, 111, 109, 95, 99, 104, 97, 114, 115]) k1
    have c2 : (s.toList == [97, 116, 111, 109, 95, 99, 111, 100, 101, 115]) = false := Num.bytes_no (l := [97, 116, 111, 109, 95, 99, 111, 100, 101, 115]) k2
    have c3 : (s.toList == [99, 104, 97, 114, 95, 99, 111, 100, 101]) = false := Num.bytes_no (l := [99, 104, 97, 114, 95, 99, 111, 100, 101]) k3
    have c4 : (s.toList == [110, 117, 109, 98, 101, 114, 95, 99, 111, 100, 101, 115]) = false := Num.bytes_no (l := [110, 117, 109, 98, 101, 114, 95, 99, 111, 100, 101, 115]) k4
    clear k0 k1 k2 k3 k4
    go_enter Tryd.func14, Tryd.ntmps14
    go_wp2
    go_ret
    exact ⟨rfl, rfl⟩
def DoRel (n : Nat) (w : World) (vi : Value) (wr : World) : Prop := ∃ i : Nat, i ≤ n ∧ vi = .int .i64 i ∧ Below w.heap.size w wr
/-- Do's answer where there is such a builtin, and its terms are whole -/
def DoP (d : Dd) (P : Nat → Prop) (w : World) (e : Ending) (w' : World) : Prop := ∃ v, e = .returned (.tuple #[v, .int .i64 0]) ∧ IsDd w' (fun b => P b ∧ b < w.heap.size ∨ w.heap.size + 1 ≤ b) v d ∧ Below w.heap.size w w'
/-- Do's answer otherwise -/
def DoX (e : Int) (w : World) (en : Ending) (w' : World) : Prop := en = .returned (.tuple #[.agg #[.bool false, .slice none 0 0, .slice none 0 0, .int .i64 0, .int .i64 0, .string ⟨#[]⟩, .slice none 0 0], .int .i64 e]) ∧ Below w.heap.size w w'
def meth (cv : Value) : Array MapEntry := #[⟨.string ⟨#[97, 116, 111, 109, 95, 108, 101, 110, 103, 116, 104]⟩, .func (.func 24) #[cv] #[], 0⟩, ⟨.string ⟨#[97, 116, 111, 109, 95, 99, 104, 97, 114, 115]⟩, .func (.func 25) #[cv] #[], 1⟩, ⟨.string ⟨#[97, 116, 111, 109, 95, 99, 111, 100, 101, 115]⟩, .func (.func 26) #[cv] #[], 2⟩, ⟨.string ⟨#[99, 104, 97, 114, 95, 99, 111, 100, 101]⟩, .func (.func 27) #[cv] #[], 3⟩, ⟨.string ⟨#[110, 117, 109, 98, 101, 114, 95, 99, 111, 100, 101, 115]⟩, .func (.func 28) #[cv] #[], 4⟩, ⟨.string ⟨#[97, 116, 111, 109, 95, 99, 111, 110, 99, 97, 116]⟩, .func (.func 29) #[cv] #[], 5⟩]
end Go.Proofs.YtkhchmgdaolojaaDoor.Tms
