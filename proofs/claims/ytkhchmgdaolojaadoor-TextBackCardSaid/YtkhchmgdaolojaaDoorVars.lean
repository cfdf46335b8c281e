
/-
  What term.seen keeps (the numbers that came, and where each stands), and its methods number and take, walked.
  term.seen's number and take of the program walked.
  term.walk of the program with (*prolix/term.seen).take as its visitor, walked (printed by gen_walk.py).
  term.seen's take, and term.Vars, of the program walked.
-/
import Derived.Test.YtkhchmgdaolojaaDoorMsd
import Derived.Test.YtkhchmgdaolojaaDoorJnt
import Derived.Test.YtkhchmgdaolojaaDoorBas
import Derived.Test.YtkhchmgdaolojaaDoorVisit
namespace Go.Proofs.YtkhchmgdaolojaaDoor.Tms
open Go Go.RowKit Go.Proofs.YtkhchmgdaolojaaDoor.Reg Go.Proofs.YtkhchmgdaolojaaDoor.Rws
set_option linter.unusedVariables false

/-- a number in one cell -/
def intKind : Rws.Kind Int where
  T := 2
  sz := 1
  R := fun w P cs a => cs = [.int .i64 a]
  pos := by decide
  len := by rintro w P cs a rfl; rfl
  one := by
    rintro w P cs a rfl v hv
    simp only [List.mem_cons, List.not_mem_nil, or_false] at hv
    subst hv; rfl
  mono := by rintro w w' P P' cs a hP hw rfl; rfl
  lt := by rintro w P cs a rfl; rfl
theorem info_int64 : (Tryd.prog.info? 2).map (fun i => (i.zero, i.size, i.bytes)) = some (some (.int .i64 0), 1, 8) := by kernel_rfl

/-- the numbers' entries -/
def seenEs (i : Nat) : List Int → List MapEntry
  | [] => []
  | n :: l => ⟨.int .i64 n, .int .i64 i, i⟩ :: seenEs (i + 1) l
theorem seenEs_app : ∀ (i : Nat) (l m : List Int), seenEs i (l ++ m) = seenEs i l ++ seenEs (i + l.length) m
  | i, [], m => by simp [seenEs]
  | i, n :: l, m => by simp [seenEs, seenEs_app (i + 1) l m, Nat.add_comm, Nat.add_left_comm]
/-- where a number stands among those that came -/
def place : List Int → Int → Option Nat
  | [], _ => none
  | x :: l, n => if n = x then some 0 else (place l n).map (· + 1)
theorem findNow_seen (k : IntKind) (n : Int) : ∀ (l : List Int) (i j : Nat), Instr.findNow (.int k) (.int .i64 n) (seenEs i l) j = some ((place l n).map fun p => (j + p, .int .i64 ((i + p : Nat) : Int)))
  | [], i, j => by simp [seenEs, Instr.findNow, place]
  | x :: l, i, j => by
    have ih := findNow_seen k n l (i + 1) (j + 1)
    by_cases h : n = x
    · simp [seenEs, Instr.findNow, Instr.sameNow, place, h]
    · simp only [seenEs, Instr.findNow, Instr.sameNow, if_true, place, if_neg h]
      have hb : (n == x) = false := by simpa using h
      rw [hb]
      simp only []
      rw [ih]
      cases place l n <;> simp
      omega
def numL (l : List Int) (n : Int) : List Int := if (place l n).isSome then l else l ++ [n]
def numP (l : List Int) (n : Int) : Nat := (place l n).getD l.length
theorem place_lt : ∀ {l : List Int} {n : Int} {p : Nat}, place l n = some p → p < l.length
  | x :: l, n, p, h => by
    unfold place at h
    split at h
    · simp only [Option.some.injEq] at h; subst h; simp
    · cases hp : place l n with
      | none => rw [hp] at h; cases h
      | some q => rw [hp] at h; simp only [Option.map_some, Option.some.injEq] at h; subst h; have := place_lt hp; simp; omega

/-- its blocks -/
def SeenMine (mb mm : Nat) (W : World) (b : Nat) : Prop := b = mb ∨ b = mm ∨ ∃ lv, W.cell? ⟨mb, 0, none⟩ = some lv ∧ lv.ownBlock = some b
theorem wpList_makeMap {P : Program} {w : World} {ops : Array Oper} {rest : List Oper} {o : Oper} {a : Act} {Q : Exit → Act → World → Prop} (hgd : o.guard = none) (t : TypeId) (ho : o.op = .makeMap t none)
    (hK : wpList P ops Q rest (a.put o.dst (.map (some w.heap.size))) (w.alloc (.map #[] 0))) : wpList P ops Q (o :: rest) a w := by
  refine wpList_plain hgd fun K hK' => ?_
  have hrun := run_makeMap (P := P) t w
  unfold Oper.wp
  simp [execOp, ho, hrun, Result.andThen]
  exact hK' _ _ hK
theorem wpList_update_new {P : Program} {w : World} {ops : Array Oper} {rest : List Oper} {o : Oper} {a : Act} {Q : Exit → Act → World → Prop} (hgd : o.guard = none) (t : TypeId) (m k x : Operand) (ho : o.op = .mapUpdate t m k x) (kt et : TypeId) (d : TypeDesc)
    (h : P.underlying t = some (.map kt et)) (hk : P.underlying kt = some d) (hp : Maps.plainKey d = true) (b : Nat) (es : Array MapEntry) (c : Nat) (hm : a.eval m = .map (some b)) (hb : w.heap[b]? = some (.map es c)) (hf : Instr.findNow d (a.eval k) es.toList 0 = some none)
    (hK : ∀ w', w'.heap[b]? = some (.map (es.push ⟨a.eval k, a.eval x, c⟩) (c + 1)) → w.grownBy w' (some b) → wpList P ops Q rest (a.put o.dst undef) w') : wpList P ops Q (o :: rest) a w := by
  refine wpList_plain hgd fun K hK' => ?_
  have hrun := Maps.run_insert_new (P := P) w t kt et d h hk hp b (a.eval k) (a.eval x) es c hb hf
  unfold Oper.wp
  simp [execOp, ho, hm, hrun, Result.andThen]
  exact hK' _ _ (hK _ (Maps.setObj'_at _ _ _ (Array.getElem?_eq_some_iff.1 hb).1) (Maps.setObj'_grown _ _ _))
end Go.Proofs.YtkhchmgdaolojaaDoor.Tms
namespace Go.Proofs.YtkhchmgdaolojaaDoor.Tms
open Go Go.RowKit Go.Proofs.YtkhchmgdaolojaaDoor.Reg Go.Proofs.YtkhchmgdaolojaaDoor.Rws
set_option linter.unusedVariables false

end Go.Proofs.YtkhchmgdaolojaaDoor.Tms
namespace Go.Proofs.YtkhchmgdaolojaaDoor.Tms
open Go Go.RowKit Go.Proofs.YtkhchmgdaolojaaDoor.Reg Go.Proofs.YtkhchmgdaolojaaDoor.Rws
set_option linter.unusedVariables false

end Go.Proofs.YtkhchmgdaolojaaDoor.Tms
namespace Go.Proofs.YtkhchmgdaolojaaDoor.Tms
open Go Go.RowKit Go.Proofs.YtkhchmgdaolojaaDoor.Reg Go.Proofs.YtkhchmgdaolojaaDoor.Rws
set_option linter.unusedVariables false

def takeL (L : List Int) (p : Tm × Int) : List Int := if p.1.k = 1 then numL L p.1.n else L
/-- the variables' numbers, as they come -/
def varsD (D : List (Tm × Int)) : List Int := D.foldl takeL []
def varsT (t : Tm) : List Int := varsD (parts 1 t)
theorem numL_len (L : List Int) (n : Int) : (numL L n).length ≤ L.length + 1 := by unfold numL; split <;> simp
theorem varsD_len (D : List (Tm × Int)) : (varsD D).length ≤ D.length := by
  have key : ∀ (D : List (Tm × Int)) (L : List Int), (D.foldl takeL L).length ≤ L.length + D.length := by
    intro D
    induction D with
    | nil => intro L; simp
    | cons p D ih =>
      intro L
      rw [List.foldl_cons]
      have h1 := ih (takeL L p)
      have h2 : (takeL L p).length ≤ L.length + 1 := by unfold takeL; split; exact numL_len _ _; omega
      simp only [List.length_cons]
      omega
  have := key D []
  simpa [varsD] using this
theorem varsD_snoc (D : List (Tm × Int)) (p : Tm × Int) : varsD (D ++ [p]) = takeL (varsD D) p := by simp [varsD]
theorem each_ints {w : World} {P : Nat → Prop} : ∀ {xss : List (List Value)} {L : List Int}, Each intKind w P xss L → xss.flatten = L.map fun n => Value.int .i64 n
  | [], [], _ => rfl
  | x :: xss, n :: L, h => by
    have h1 : x = [.int .i64 n] := h.1
    rw [List.flatten_cons, each_ints h.2, h1]
    rfl
  | [], _ :: _, h => h.elim
  | _ :: _, [], h => h.elim
def varsPost (t : Tm) (w : World) (e : Ending) (w' : World) : Prop := ∃ v, e = .returned v ∧ IntSl w' (fun b => w.heap.size ≤ b) v (varsT t) ∧ Below w.heap.size w w'

end Go.Proofs.YtkhchmgdaolojaaDoor.Tms
