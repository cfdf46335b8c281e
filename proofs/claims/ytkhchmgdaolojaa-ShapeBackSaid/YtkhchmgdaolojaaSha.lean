
/-
  Layer 17: which builtins there are; the maps of names to functions.
-/
import Derived.Test.YtkhchmgdaolojaaGnb
import Derived.Deep.Cut
import Derived.Deep.CutRange
import Derived.Deep.DeepCutAuto
namespace Go.Proofs.Ytkhchmgdaolojaa.Tms
open Go Go.RowKit Go.Proofs.Ytkhchmgdaolojaa.Reg Go.Proofs.Ytkhchmgdaolojaa.Maps Go.Instr
set_option linter.unusedVariables false
set_option linter.unusedSimpArgs false

/-- a builtin that the laws ask: its name, and how many arguments -/
inductive ShN : ByteArray → Nat → Prop where
  | s0 : ShN ⟨#[118, 97, 114]⟩ 1
  | s1 : ShN ⟨#[110, 111, 110, 118, 97, 114]⟩ 1
  | s2 : ShN ⟨#[97, 116, 111, 109]⟩ 1
  | s3 : ShN ⟨#[105, 110, 116, 101, 103, 101, 114]⟩ 1
  | s4 : ShN ⟨#[97, 116, 111, 109, 105, 99]⟩ 1
  | s5 : ShN ⟨#[99, 111, 109, 112, 111, 117, 110, 100]⟩ 1
  | s6 : ShN ⟨#[99, 97, 108, 108, 97, 98, 108, 101]⟩ 1
  | s7 : ShN ⟨#[102, 117, 110, 99, 116, 111, 114]⟩ 3
  | s8 : ShN ⟨#[97, 114, 103]⟩ 3
  | s9 : ShN ⟨#[99, 111, 109, 112, 97, 114, 101]⟩ 3
  | s10 : ShN ⟨#[61, 46, 46]⟩ 2
  | s11 : ShN ⟨#[61, 61]⟩ 2
  | s12 : ShN ⟨#[92, 61, 61]⟩ 2
  | s13 : ShN ⟨#[64, 60]⟩ 2
  | s14 : ShN ⟨#[64, 62]⟩ 2
  | s15 : ShN ⟨#[64, 61, 60]⟩ 2
  | s16 : ShN ⟨#[64, 62, 61]⟩ 2
set_option maxRecDepth 100000 in
set_option maxHeartbeats 4000000 in
theorem sh_Does {s : ByteArray} {n : Nat} (h : ShN s n) (w : World) : Calls Try.prog 63 #[.string s, .int .i64 n] w (fun e w' => e = .returned (.bool true) ∧ w = w') := by
  cases h
  all_goals
    go_enter Try.func63, Try.ntmps63
    go_wp2
    go_ret
    exact ⟨rfl, rfl⟩
def ordE : Array MapEntry := #[⟨.string ⟨#[61, 61]⟩, .func (.func 76) #[] #[], 0⟩, ⟨.string ⟨#[92, 61, 61]⟩, .func (.func 77) #[] #[], 1⟩, ⟨.string ⟨#[64, 60]⟩, .func (.func 78) #[] #[], 2⟩, ⟨.string ⟨#[64, 62]⟩, .func (.func 79) #[] #[], 3⟩, ⟨.string ⟨#[64, 61, 60]⟩, .func (.func 80) #[] #[], 4⟩, ⟨.string ⟨#[64, 62, 61]⟩, .func (.func 81) #[] #[], 5⟩]
set_option maxRecDepth 100000 in
theorem sh_orders (w : World) : Calls Try.prog 64 #[] w (fun e w' => ∃ b, e = .returned (.map (some b)) ∧ w.heap.size ≤ b ∧ w'.heap[b]? = some (.map ordE 6) ∧ Below w.heap.size w w') := by
  go_enter Try.func64, Try.ntmps64
  go_wp2_with (first
    | (refine wpList_map_start rfl 134 rfl w (Below.refl _ _) ?_
       intro b w1 h1
       have HF := Lib.hid h1
       clear h1)
    | (refine wpList_map_fill rfl 134 (.tmp 1) _ _ rfl _ _ _ Try.underlying134 Try.underlying9 rfl w _ _ _ rfl HF.out rfl ?_
       intro w1 h1
       replace HF := Lib.hid h1
       clear h1))
  go_ret
  exact ⟨b, rfl, HF.out.low, HF.out.at_, HF.out.bel⟩
/-- the methods of a call, by their names -/
def blt (cv : Value) : Array MapEntry := #[⟨.string ⟨#[118, 97, 114]⟩, .func (.func 83) #[cv] #[], 0⟩, ⟨.string ⟨#[110, 111, 110, 118, 97, 114]⟩, .func (.func 83) #[cv] #[], 1⟩, ⟨.string ⟨#[97, 116, 111, 109]⟩, .func (.func 83) #[cv] #[], 2⟩, ⟨.string ⟨#[105, 110, 116, 101, 103, 101, 114]⟩, .func (.func 83) #[cv] #[], 3⟩, ⟨.string ⟨#[97, 116, 111, 109, 105, 99]⟩, .func (.func 83) #[cv] #[], 4⟩, ⟨.string ⟨#[99, 111, 109, 112, 111, 117, 110, 100]⟩, .func (.func 83) #[cv] #[], 5⟩, ⟨.string ⟨#[99, 97, 108, 108, 97, 98, 108, 101]⟩, .func (.func 83) #[cv] #[], 6⟩, ⟨.string ⟨#[105, 115, 95, 108, 105, 115, 116]⟩, .func (.func 84) #[cv] #[], 7⟩, ⟨.string ⟨#[99, 111, 109, 112, 97, 114, 101]⟩, .func (.func 85) #[cv] #[], 8⟩, ⟨.string ⟨#[105, 115]⟩, .func (.func 86) #[cv] #[], 9⟩, ⟨.string ⟨#[61, 58, 61]⟩, .func (.func 87) #[cv] #[], 10⟩, ⟨.string ⟨#[61, 92, 61]⟩, .func (.func 87) #[cv] #[], 11⟩, ⟨.string ⟨#[60]⟩, .func (.func 87) #[cv] #[], 12⟩, ⟨.string ⟨#[62]⟩, .func (.func 87) #[cv] #[], 13⟩, ⟨.string ⟨#[61, 60]⟩, .func (.func 87) #[cv] #[], 14⟩, ⟨.string ⟨#[62, 61]⟩, .func (.func 87) #[cv] #[], 15⟩, ⟨.string ⟨#[102, 117, 110, 99, 116, 111, 114]⟩, .func (.func 88) #[cv] #[], 16⟩, ⟨.string ⟨#[97, 114, 103]⟩, .func (.func 89) #[cv] #[], 17⟩, ⟨.string ⟨#[61, 46, 46]⟩, .func (.func 90) #[cv] #[], 18⟩]
set_option maxRecDepth 100000 in
set_option maxHeartbeats 4000000 in
theorem sh_builtins (w : World) (s : ByteArray) (a : Option Addr) (n c : Nat) : Calls Try.prog 66 #[.agg #[.string s, .slice a n c]] w (fun e w' => ∃ b, e = .returned (.map (some b)) ∧ w.heap.size ≤ b ∧ w'.heap[b]? = some (.map (blt (.agg #[.string s, .slice a n c])) 19) ∧ Below w.heap.size w w') := by
  have hr := heap_alloc_new w (.cells #[.string s, .slice a n c] 140 (0, 0))
  have x0 := cell_of_row _ _ 0 _ _ _ hr
  have x1 := cell_of_row _ _ 1 _ _ _ hr
  have hb0 : Below w.heap.size w (w.alloc (.cells #[.string s, .slice a n c] 140 (0, 0))) := (Below.refl _ _).alloc (Nat.le_refl _) _
  have HB0 := Lib.hid hb0
  have HR := Lib.hid hr
  clear hr hb0
  go_enter Try.func66, Try.ntmps66
  go_upto_region 1 with fail
  generalize w.alloc (.cells #[.string s, .slice a n c] 140 (0, 0)) = W1 at *
  have hlt := (Array.getElem?_eq_some_iff.1 HR.out).1
  have HLT := Lib.hid hlt
  clear hlt
  go_wp2_with (first
    | (with_reducible show wpList _ _ _ (⟨some 3, _, _, _, _, _⟩ :: _) _ _
       refine wpList_map_start rfl 138 rfl W1 (Below.refl _ _) ?_
       intro b w1 h1
       clear x0 x1
       have hr := (h1.bel.block _ HLT.out).trans HR.out
       have x0 := cell_of_row _ _ 0 _ _ _ hr
       have x1 := cell_of_row _ _ 1 _ _ _ hr
       have HF := Lib.hid h1
       clear h1 hr)
    | (with_reducible show wpList _ _ _ (⟨none, .insert _ _ _ _, _, _, _, _⟩ :: _) _ _
       refine wpList_map_fill rfl 138 (.tmp 3) _ _ rfl _ _ _ Try.underlying138 Try.underlying9 rfl W1 _ _ _ rfl HF.out (by kernel_rfl) ?_
       intro w1 h1
       clear x0 x1
       have hr := (h1.bel.block _ HLT.out).trans HR.out
       have x0 := cell_of_row _ _ 0 _ _ _ hr
       have x1 := cell_of_row _ _ 1 _ _ _ hr
       replace HF := Lib.hid h1
       clear h1 hr))
  go_ret
  exact ⟨b, rfl, Nat.le_trans HB0.out.size HF.out.low, HF.out.at_, HB0.out.trans (HF.out.bel.mono HB0.out.size)⟩
end Go.Proofs.Ytkhchmgdaolojaa.Tms
