/-
  What the small checks of an instruction come to, and the check of all of them, walked over the program.
-/
import Derived.Test.YtlndoogiflcoeaaCodW
import Derived.Test.YtlndoogiflcoeaaReg
import Derived.Laws.EntriesVeiled
namespace Go.Proofs.Ytlndoogiflcoeaa.Cod
open Go Go.RowKit Go.Proofs.Ytlndoogiflcoeaa.Reg

def Ins.isAny (i : Ins) : Bool := i.a == 0 && (i.n == 0 && i.s.toList.isEmpty)
def Ins.isSlot (i : Ins) : Bool := i.n == 0 && i.s.toList.isEmpty
def Ins.isNum (i : Ins) : Bool := i.a == 0 && i.s.toList.isEmpty
def Ins.isName (i : Ins) : Bool := i.a == 0 && (i.n == 0 && decide ((i.s.size : Int) ≤ 1000))
def Ins.isComp (i : Ins) : Bool := i.n == 0 && decide ((i.s.size : Int) ≤ 1000)
def Ins.ok (i : Ins) : Bool :=
  if i.op = 1 then i.isAny else if i.op = 2 ∨ i.op = 3 then i.isSlot else if i.op = 4 then i.isNum else if i.op = 5 then i.isName else i.isComp
abbrev Ins.val (i : Ins) : Value := .agg #[.int .i64 i.op, .int .i64 i.a, .int .i64 i.n, .string i.s]

def Says (b : Bool) (w : World) (e : Ending) (w' : World) : Prop := e = .returned (.bool b) ∧ Below w.heap.size w w'
theorem says {a b : Bool} {w w' : World} (h : a = b) (hb : Below w.heap.size w w') : Says b w (.returned (.bool a)) w' := ⟨by rw [h], hb⟩

theorem is_any (i : Ins) (w : World) : Calls Try.prog 53 #[i.val] w (Says i.isAny w) := by
  go_enter Try.func53, Try.ntmps53
  go_wp2
  all_goals go_ret
  all_goals exact says (by simp [Ins.isAny, *]) ((Below.refl _ _).alloc (Nat.le_refl _) _)
theorem is_slot (i : Ins) (w : World) : Calls Try.prog 54 #[i.val] w (Says i.isSlot w) := by
  go_enter Try.func54, Try.ntmps54
  go_wp2
  all_goals go_ret
  all_goals exact says (by simp [Ins.isSlot, *]) ((Below.refl _ _).alloc (Nat.le_refl _) _)
theorem is_num (i : Ins) (w : World) : Calls Try.prog 55 #[i.val] w (Says i.isNum w) := by
  go_enter Try.func55, Try.ntmps55
  go_wp2
  all_goals go_ret
  all_goals exact says (by simp [Ins.isNum, *]) ((Below.refl _ _).alloc (Nat.le_refl _) _)
theorem is_name (i : Ins) (w : World) : Calls Try.prog 56 #[i.val] w (Says i.isName w) := by
  go_enter Try.func56, Try.ntmps56
  go_wp2
  all_goals go_ret
  all_goals exact says (by simp [Ins.isName, *]) ((Below.refl _ _).alloc (Nat.le_refl _) _)
theorem is_comp (i : Ins) (w : World) : Calls Try.prog 57 #[i.val] w (Says i.isComp w) := by
  go_enter Try.func57, Try.ntmps57
  go_wp2
  all_goals go_ret
  all_goals exact says (by simp [Ins.isComp, *]) ((Below.refl _ _).alloc (Nat.le_refl _) _)
theorem ref_zero (i : Ins) (w : World) : Calls Try.prog 44 #[i.val] w (Says i.ok w) := by
  go_enter Try.func44, Try.ntmps44
  go_wp2
  all_goals go_ret
  all_goals exact says (by simp_all [Ins.ok, Ins.isAny, Ins.isSlot, Ins.isNum, Ins.isName, Ins.isComp]) ((Below.refl _ _).alloc (Nat.le_refl _) _)

def fnOf (n : Nat) : Value := .func (.func n) #[] #[]
theorem checks_any (w : World) : Calls Try.prog 47 #[] w fun e w' => e = .returned (.agg #[.nilFunc, .func (.func 53) #[] #[], .func (.func 54) #[] #[], .func (.func 54) #[] #[], .func (.func 55) #[] #[], .func (.func 56) #[] #[], .func (.func 57) #[] #[]]) ∧ Below w.heap.size w w' := by
  have hb : ∀ w : World, (Instr.build 87 #[(1, .func (.func 53) #[] #[]), (2, .func (.func 54) #[] #[]), (3, .func (.func 54) #[] #[]), (4, .func (.func 55) #[] #[]), (5, .func (.func 56) #[] #[]), (6, .func (.func 57) #[] #[])]).run Try.prog w =
    .ok (.agg #[.nilFunc, .func (.func 53) #[] #[], .func (.func 54) #[] #[], .func (.func 54) #[] #[], .func (.func 55) #[] #[], .func (.func 56) #[] #[], .func (.func 57) #[] #[]]) w := fun _ => by kernel_rfl
  go_enter Try.func47, Try.ntmps47
  go_wp2
  exact bodyPost_ret (v := .agg #[.nilFunc, .func (.func 53) #[] #[], .func (.func 54) #[] #[], .func (.func 54) #[] #[], .func (.func 55) #[] #[], .func (.func 56) #[] #[], .func (.func 57) #[] #[]]) (by simp [results, Try.results47, go_sem]) rfl ⟨rfl, (Below.refl _ _).alloc (Nat.le_refl _) _⟩
end Go.Proofs.Ytlndoogiflcoeaa.Cod
