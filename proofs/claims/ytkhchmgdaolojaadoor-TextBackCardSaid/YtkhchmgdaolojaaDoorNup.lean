
/-
  Terms renamed, their parts in order, their variables numbered: plain.
-/
import Derived.Test.YtkhchmgdaolojaaDoorVars
namespace Go.Proofs.YtkhchmgdaolojaaDoor.Tms
open Go Go.RowKit Go.Proofs.YtkhchmgdaolojaaDoor.Reg Go.Proofs.YtkhchmgdaolojaaDoor.Rws
set_option linter.unusedVariables false

mutual
def renT (φ : Int → Int) : Tm → Tm
  | .mk k n s a => .mk k (if k = 1 then φ n else n) s (renL φ a)
def renL (φ : Int → Int) : List Tm → List Tm
  | [] => []
  | t :: l => renT φ t :: renL φ l
end
theorem renL_map (φ : Int → Int) : ∀ l, renL φ l = l.map (renT φ)
  | [] => by simp [renL]
  | t :: l => by simp [renL, renL_map φ l]
mutual
/-- a term's parts, from the left, each ahead of its Args -/
def flatT : Tm → List (Tm × Int)
  | .mk k n s a => (.mk k n s a, 0) :: flatL a
def flatL : List Tm → List (Tm × Int)
  | [] => []
  | t :: l => flatT t ++ flatL l
end
theorem flatT_eq (t : Tm) : flatT t = (t, 0) :: flatL t.args := by
  obtain ⟨k, n, s, a⟩ := t
  rw [flatT]
  rfl
theorem flatL_app : ∀ l m, flatL (l ++ m) = flatL l ++ flatL m
  | [], m => by simp [flatL]
  | t :: l, m => by simp [flatL, flatL_app l m]
mutual
theorem flatT_parts : ∀ (d : Int) (t : Tm), (flatT t).map Prod.fst = (parts d t).map Prod.fst
  | d, .mk k n s a => by simp [flatT, parts, flatL_parts (d + 1) a]
theorem flatL_parts : ∀ (d : Int) (l : List Tm), (flatL l).map Prod.fst = (partsL d l).map Prod.fst
  | d, [] => by simp [flatL, partsL]
  | d, t :: l => by simp [flatL, partsL, flatT_parts d t, flatL_parts d l]
end
theorem varsD_fst : ∀ {D E : List (Tm × Int)}, D.map Prod.fst = E.map Prod.fst → varsD D = varsD E := by
  have key : ∀ (D E : List (Tm × Int)) (L : List Int), D.map Prod.fst = E.map Prod.fst → D.foldl takeL L = E.foldl takeL L := by
    intro D
    induction D with
    | nil => intro E L h; cases E with
      | nil => rfl
      | cons _ _ => simp at h
    | cons p D ih =>
      intro E L h
      cases E with
      | nil => simp at h
      | cons q E =>
        simp only [List.map_cons, List.cons.injEq] at h
        have e : takeL L p = takeL L q := by unfold takeL; rw [h.1]
        rw [List.foldl_cons, List.foldl_cons, e]
        exact ih E _ h.2
  exact fun {D E} h => key D E [] h
theorem varsT_flat (t : Tm) : varsD (flatT t) = varsT t := varsD_fst (flatT_parts 1 t)
mutual
theorem renT_id : ∀ t : Tm, renT (fun n => n) t = t
  | .mk k n s a => by rw [renT, renL_id a]; simp
theorem renL_id : ∀ l : List Tm, renL (fun n => n) l = l
  | [] => by simp [renL]
  | t :: l => by rw [renL, renT_id t, renL_id l]
end
theorem place_app : ∀ {L : List Int} {n : Int} {q : Nat} (M : List Int), place L n = some q → place (L ++ M) n = some q
  | x :: L, n, q, M, h => by
    simp only [List.cons_append]
    unfold place at h ⊢
    split
    · rename_i e; rw [if_pos e] at h; exact h
    · rename_i e
      rw [if_neg e] at h
      cases hp : place L n with
      | none => rw [hp] at h; cases h
      | some p => rw [hp] at h; rw [place_app M hp]; exact h
theorem place_new : ∀ {L : List Int} {n : Int}, place L n = none → place (L ++ [n]) n = some L.length
  | [], n, _ => by simp [place]
  | x :: L, n, h => by
    simp only [List.cons_append]
    unfold place at h ⊢
    split
    · rename_i e; rw [if_pos e] at h; cases h
    · rename_i e
      rw [if_neg e] at h
      cases hp : place L n with
      | none => rw [place_new hp]; rfl
      | some p => rw [hp] at h; cases h
theorem place_num (L : List Int) (n : Int) : place (numL L n) n = some (numP L n) := by
  unfold numL numP
  cases hp : place L n with
  | none => simp [place_new hp]
  | some p => simp [hp]
theorem fold_app : ∀ (D : List (Tm × Int)) (L : List Int), ∃ M, D.foldl takeL L = L ++ M
  | [], L => ⟨[], by simp⟩
  | p :: D, L => by
    obtain ⟨M, h⟩ := fold_app D (takeL L p)
    rw [List.foldl_cons, h]
    unfold takeL numL
    split
    · split
      · exact ⟨M, rfl⟩
      · exact ⟨p.1.n :: M, by simp⟩
    · exact ⟨M, rfl⟩
theorem place_final {D rest : List (Tm × Int)} {p : Tm × Int} (hk : p.1.k = 1) : place (varsD (D ++ p :: rest)) p.1.n = some (numP (varsD D) p.1.n) := by
  have h1 : varsD (D ++ p :: rest) = rest.foldl takeL (takeL (varsD D) p) := by simp [varsD]
  obtain ⟨M, h2⟩ := fold_app rest (takeL (varsD D) p)
  rw [h1, h2]
  refine place_app M ?_
  unfold takeL
  rw [if_pos hk]
  exact place_num _ _
/-- numbered from 0 on, in the order in which they come -/
def numT (t : Tm) : Tm := renT (fun n => (numP (varsT t) n : Int)) t
end Go.Proofs.YtkhchmgdaolojaaDoor.Tms
