
/-
  Terms renamed, their parts in order, their variables numbered: plain.
-/
import Derived.Test.YtkhchmgdaolojaaDoorVars
namespace Go.Proofs.YtkhchmgdaolojaaDoor.Tms
open Go Go.RowKit Go.Proofs.YtkhchmgdaolojaaDoor.Reg Go.Proofs.YtkhchmgdaolojaaDoor.Rws
set_option linter.unusedVariables false

mutual
def renT (φ : Int → Int) : Tm → Tm
  | .mk k n s a => .mk k (if k = 1 then φ n else n) s (renL φ a)
def renL (φ : Int → Int) : List Tm → List Tm
  | [] => []
  | t :: l => renT φ t :: renL φ l
end
theorem renL_map (φ : Int → Int) : ∀ l, renL φ l = l.map (renT φ)
  | [] => by simp [renL]
  | t :: l => by simp [renL, renL_map φ l]
mutual
/-- a term's parts, from the left, each ahead of its Args -/
def flatT : Tm → List (Tm × Int)
  | .mk k n s a => (.mk k n s a, 0) :: flatL a
def flatL : List Tm → List (Tm × Int)
  | [] => []
  | t :: l => flatT t ++ flatL l
end
theorem flatT_eq (t : Tm) : flatT t = (t, 0) :: flatL t.args := by
  obtain ⟨k, n, s, a⟩ := t
  rw [flatT]
  rfl
theorem flatL_app : ∀ l m, flatL (l ++ m) = flatL l ++ flatL m
  | [], m => by simp [flatL]
  | t :: l, m => by simp [flatL, flatL_app l m]
mutual
theorem flatT_parts : ∀ (d : Int) (t : Tm), (flatT t).map Prod.fst = (parts d t).map Prod.fst
  | d, .mk k n s a => by simp [flatT, parts, flatL_parts (d + 1) a]
theorem flatL_parts : ∀ (d : Int) (l : List Tm), (flatL l).map Prod.fst = (partsL d l).map Prod.fst
  | d, [] => by simp [flatL, partsL]
  | d, t :: l => by simp [flatL, partsL, flatT_parts d t, flatL_parts d l]
end
mutual
theorem renT_id : ∀ t : Tm, renT (fun n => n) t = t
  | .mk k n s a => by rw [renT, renL_id a]; simp
theorem renL_id : ∀ l : List Tm, renL (fun n => n) l = l
  | [] => by simp [renL]
  | t :: l => by rw [renL, renT_id t, renL_id l]
end
end Go.Proofs.YtkhchmgdaolojaaDoor.Tms
