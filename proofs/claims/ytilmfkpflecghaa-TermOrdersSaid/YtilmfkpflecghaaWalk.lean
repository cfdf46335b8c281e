
/-
  term.walk of the program: its stack; the parts of a term in order.
-/
import Derived.Test.YtilmfkpflecghaaRws
import Derived.Test.YtilmfkpflecghaaMeas
import Derived.Test.YtilmfkpflecghaaGnb
namespace Go.Proofs.Ytilmfkpflecghaa.Tms
open Go Go.RowKit
set_option linter.unusedVariables false

/-- a part, and how deep it stands, in five cells -/
def abKind : Rws.Kind (Tm × Int) where
  T := 153
  sz := 5
  R := fun w P cs a => ∃ q c, cs = [.int .i64 a.1.k, .int .i64 a.1.n, .string a.1.s, .slice q a.1.args.length c, .int .i64 a.2] ∧ ArgsFrom w P q 0 a.1.args
  pos := by decide
  len := by rintro w P cs a ⟨q, c, rfl, -⟩; rfl
  one := by
    rintro w P cs a ⟨q, c, rfl, -⟩ v hv
    simp only [List.mem_cons, List.not_mem_nil, or_false] at hv
    rcases hv with rfl | rfl | rfl | rfl | rfl <;> rfl
  mono := by rintro w w' P P' cs a hP hw ⟨q, c, rfl, h⟩; exact ⟨q, c, rfl, ArgsFrom.imp hP hw _ _ _ h⟩
  lt := by rintro w P cs a ⟨q, c, rfl, h⟩; exact ⟨q, c, rfl, ArgsFrom.lt _ _ _ h⟩

theorem info_above : (Try.prog.info? 153).map (fun i => (i.zero, i.size, i.bytes)) = some (some (.agg #[.int .i64 0, .int .i64 0, .string ⟨#[]⟩, .slice none 0 0, .int .i64 0]), 5, 64) := by kernel_rfl

mutual
/-- the parts of a term that stands at this depth, from the left, each ahead of its Args -/
def parts (d : Int) : Tm → List (Tm × Int)
  | .mk k n s a => (.mk k n s a, d) :: partsL (d + 1) a
def partsL (d : Int) : List Tm → List (Tm × Int)
  | [] => []
  | t :: l => parts d t ++ partsL d l
end
/-- of a stack, from its top -/
def partsS : List (Tm × Int) → List (Tm × Int)
  | [] => []
  | p :: l => parts p.2 p.1 ++ partsS l
theorem partsS_app : ∀ l m, partsS (l ++ m) = partsS l ++ partsS m
  | [], m => rfl
  | p :: l, m => by simp [partsS, partsS_app l m]
theorem partsL_map (d : Int) : ∀ l : List Tm, partsL d l = partsS (l.map fun t => (t, d))
  | [] => by simp [partsL, partsS]
  | t :: l => by simp [partsL, partsS, partsL_map d l]
theorem parts_eq (t : Tm) (d : Int) : parts d t = (t, d) :: partsS (t.args.map fun x => (x, d + 1)) := by
  obtain ⟨k, n, s, a⟩ := t
  rw [parts, partsL_map]
  rfl
/-- what take does, over and over -/
def meas (st : Bool × Int × Int) : List (Tm × Int) → Bool × Int × Int
  | [] => st
  | p :: l => meas (st.1 || !mayB p.1.k p.1.n p.1.s p.1.args.length, st.2.1 + 1, max st.2.2 p.2) l
theorem meas_app (st : Bool × Int × Int) : ∀ l m, meas st (l ++ m) = meas (meas st l) m := by
  intro l
  induction l generalizing st with
  | nil => intro m; rfl
  | cons p l ih => intro m; simp only [List.cons_append, meas]; exact ih _ m

/-- grown, and all blocks but these as they were -/
structure Keeps (w w' : World) (M : Nat → Prop) : Prop where
  os : w'.os = w.os
  tape : w'.tape = w.tape
  output : w'.output = w.output
  size : w.heap.size ≤ w'.heap.size
  block : ∀ b, b < w.heap.size → ¬ M b → w'.heap[b]? = w.heap[b]?
theorem Keeps.refl (w : World) (M : Nat → Prop) : Keeps w w M := ⟨rfl, rfl, rfl, Nat.le_refl _, fun _ _ _ => rfl⟩
theorem Keeps.of {w w' : World} {M : Nat → Prop} (h : Below w.heap.size w w') : Keeps w w' M := ⟨h.os, h.tape, h.output, h.size, fun b hb _ => h.block b hb⟩
theorem Keeps.trans {w w' w'' : World} {M M' : Nat → Prop} (h : Keeps w w' M) (h' : Keeps w' w'' M') (hM : ∀ b, M' b → M b ∨ w.heap.size ≤ b) : Keeps w w'' M :=
  ⟨h'.os.trans h.os, h'.tape.trans h.tape, h'.output.trans h.output, Nat.le_trans h.size h'.size, fun b hb hm => (h'.block b (Nat.lt_of_lt_of_le hb h.size) fun hm' => (hM b hm').elim hm fun hge => by omega).trans (h.block b hb hm)⟩
theorem Keeps.below {w w' : World} {M : Nat → Prop} (h : Keeps w w' M) (hM : ∀ b, ¬ M b) : Below w.heap.size w w' := ⟨h.os, h.tape, h.output, h.size, fun b hb => h.block b hb (hM b)⟩
theorem Keeps.grown {w w' : World} {M : Nat → Prop} {o : Option Nat} (h : w.grownBy w' o) (hM : ∀ b, o = some b → M b ∨ w.heap.size ≤ b) : Keeps w w' M :=
  ⟨h.os, h.tape, h.output, h.size, fun b hb hm => h.block b hb fun e => (hM b e.symm).elim hm fun hge => by omega⟩

def sumA : List (Tm × Int) → Nat
  | [] => 0
  | p :: l => p.1.size + sumA l
theorem sumA_app : ∀ l m, sumA (l ++ m) = sumA l + sumA m
  | [], m => by simp [sumA]
  | p :: l, m => by simp [sumA, sumA_app l m]; omega
theorem len_sumA : ∀ l : List (Tm × Int), l.length ≤ sumA l
  | [] => by simp
  | p :: l => by have := len_sumA l; have := size_pos p.1; simp [sumA]; omega
theorem sumA_map (d : Int) : ∀ l : List Tm, sumA (l.map fun t => (t, d)) = sizeL l
  | [] => rfl
  | t :: l => by simp [sumA, sizeL, sumA_map d l]
theorem mem_sizeL {y : Tm} : ∀ {l : List Tm}, y ∈ l → y.size ≤ sizeL l
  | t :: l, h => by
    rcases List.mem_cons.1 h with rfl | h
    · simp only [sizeL]; omega
    · have := mem_sizeL h; simp only [sizeL]; omega
theorem sumA_rev : ∀ l, sumA l.reverse = sumA l
  | [] => rfl
  | p :: l => by simp [sumA, sumA_app, sumA_rev l]; omega
end Go.Proofs.Ytilmfkpflecghaa.Tms
