
/-
  Layer 17: the six orders' closures.
-/
import Derived.Test.YtkhchmgdaolojaaShd
namespace Go.Proofs.Ytkhchmgdaolojaa.Tms
open Go Go.RowKit Go.Proofs.Ytkhchmgdaolojaa.Reg Go.Proofs.Ytkhchmgdaolojaa.Rws Go.Proofs.Ytkhchmgdaolojaa.Maps Go.Instr
set_option linter.unusedVariables false
set_option linter.unusedSimpArgs false

/-- a name, the closure that its order is, and what that asks of a comparison -/
inductive ShO : ByteArray → FuncId → (Int → Bool) → Nat → Prop where
  | o0 : ShO ⟨#[61, 61]⟩ 76 (fun n => n == 0) 0
  | o1 : ShO ⟨#[92, 61, 61]⟩ 77 (fun n => n != 0) 1
  | o2 : ShO ⟨#[64, 60]⟩ 78 (fun n => decide (n < 0)) 2
  | o3 : ShO ⟨#[64, 62]⟩ 79 (fun n => decide (0 < n)) 3
  | o4 : ShO ⟨#[64, 61, 60]⟩ 80 (fun n => decide (n ≤ 0)) 4
  | o5 : ShO ⟨#[64, 62, 61]⟩ 81 (fun n => decide (0 ≤ n)) 5
theorem sho_n {s : ByteArray} {f : FuncId} {g : Int → Bool} {i : Nat} (h : ShO s f g i) : ShN s 2 := by
  cases h
  · exact .s11
  · exact .s12
  · exact .s13
  · exact .s14
  · exact .s15
  · exact .s16
theorem sho_ord {s : ByteArray} {f : FuncId} {g : Int → Bool} {i : Nat} (h : ShO s f g i) : findNow .string (.string s) ordE.toList 0 = some (some (i, .func (.func f) #[] #[])) := by
  cases h <;> kernel_rfl
theorem sho_call {s : ByteArray} {f : FuncId} {g : Int → Bool} {i : Nat} (h : ShO s f g i) (n : Int) (w : World) : Calls Try.prog f #[.int .i64 n] w (fun e w' => e = .returned (.bool (g n)) ∧ w = w') := by
  cases h
  · go_enter Try.func76, Try.ntmps76
    go_wp2
    go_ret
    exact ⟨rfl, rfl⟩
  · go_enter Try.func77, Try.ntmps77
    go_wp2
    go_ret
    exact ⟨rfl, rfl⟩
  · go_enter Try.func78, Try.ntmps78
    go_wp2
    go_ret
    exact ⟨rfl, rfl⟩
  · go_enter Try.func79, Try.ntmps79
    go_wp2
    go_ret
    exact ⟨rfl, rfl⟩
  · go_enter Try.func80, Try.ntmps80
    go_wp2
    go_ret
    exact ⟨rfl, rfl⟩
  · go_enter Try.func81, Try.ntmps81
    go_wp2
    go_ret
    exact ⟨rfl, rfl⟩
end Go.Proofs.Ytkhchmgdaolojaa.Tms
