
/-
  Terms renamed, their parts in order, their variables numbered: plain.
-/
import Derived.Test.YtoklbeogmcdgaaaVars
namespace Go.Proofs.Ytoklbeogmcdgaaa.Tms
open Go Go.RowKit Go.Proofs.Ytoklbeogmcdgaaa.Reg Go.Proofs.Ytoklbeogmcdgaaa.Rws
set_option linter.unusedVariables false

mutual
def renT (φ : Int → Int) : Tm → Tm
  | .mk k n s a => .mk k (if k = 1 then φ n else n) s (renL φ a)
def renL (φ : Int → Int) : List Tm → List Tm
  | [] => []
  | t :: l => renT φ t :: renL φ l
end
mutual
/-- a term's parts, from the left, each ahead of its Args -/
def flatT : Tm → List (Tm × Int)
  | .mk k n s a => (.mk k n s a, 0) :: flatL a
def flatL : List Tm → List (Tm × Int)
  | [] => []
  | t :: l => flatT t ++ flatL l
end
mutual
theorem flatT_parts : ∀ (d : Int) (t : Tm), (flatT t).map Prod.fst = (parts d t).map Prod.fst
  | d, .mk k n s a => by simp [flatT, parts, flatL_parts (d + 1) a]
theorem flatL_parts : ∀ (d : Int) (l : List Tm), (flatL l).map Prod.fst = (partsL d l).map Prod.fst
  | d, [] => by simp [flatL, partsL]
  | d, t :: l => by simp [flatL, partsL, flatT_parts d t, flatL_parts d l]
end
theorem varsD_fst : ∀ {D E : List (Tm × Int)}, D.map Prod.fst = E.map Prod.fst → varsD D = varsD E := by
  have key : ∀ (D E : List (Tm × Int)) (L : List Int), D.map Prod.fst = E.map Prod.fst → D.foldl takeL L = E.foldl takeL L := by
    intro D
    induction D with
    | nil => intro E L h; cases E with
      | nil => rfl
      | cons _ _ => simp at h
    | cons p D ih =>
      intro E L h
      cases E with
      | nil => simp at h
      | cons q E =>
        simp only [List.map_cons, List.cons.injEq] at h
        have e : takeL L p = takeL L q := by unfold takeL; rw [h.1]
        rw [List.foldl_cons, List.foldl_cons, e]
        exact ih E _ h.2
  exact fun {D E} h => key D E [] h
theorem varsT_flat (t : Tm) : varsD (flatT t) = varsT t := varsD_fst (flatT_parts 1 t)
mutual
theorem renT_id : ∀ t : Tm, renT (fun n => n) t = t
  | .mk k n s a => by rw [renT, renL_id a]; simp
theorem renL_id : ∀ l : List Tm, renL (fun n => n) l = l
  | [] => by simp [renL]
  | t :: l => by rw [renL, renT_id t, renL_id l]
end
end Go.Proofs.Ytoklbeogmcdgaaa.Tms
