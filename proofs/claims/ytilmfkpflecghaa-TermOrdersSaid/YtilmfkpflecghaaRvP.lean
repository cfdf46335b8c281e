
/-
  The reference's variables and renumbering of a term as plain functions: on made-good terms they are the program's. Plain.
-/
import Derived.Test.YtilmfkpflecghaaPlc
import Derived.Test.YtilmfkpflecghaaRcmp
namespace Go.Proofs.Ytilmfkpflecghaa.Tms
open Go Go.RowKit Go.Proofs.Ytilmfkpflecghaa.Reg
set_option linter.unusedVariables false

mutual
/-- the variables of a term, as the reference tells them -/
def rvT : Tm → List Int
  | .mk k n _ a => if k = 1 then [n] else rvL [] a
def rvL : List Int → List Tm → List Int
  | L, [] => L
  | L, t :: l => rvL ((rvT t).foldl numL L) l
end
theorem rvL_take : ∀ (l : List Tm) (M : List Int) (q : Nat) (h : q < l.length), rvL M (l.take (q + 1)) = (rvT l[q]).foldl numL (rvL M (l.take q))
  | t :: l, M, 0, _ => by simp [rvL]
  | t :: l, M, q + 1, h => by
    simp only [List.take_succ_cons, rvL, List.getElem_cons_succ]
    exact rvL_take l _ q (by simpa using h)
theorem fold_len : ∀ (X L : List Int), (X.foldl numL L).length ≤ L.length + X.length
  | [], L => by simp
  | x :: X, L => by
    have h1 := fold_len X (numL L x)
    have h2 := numL_len L x
    simp only [List.foldl_cons, List.length_cons]
    omega
mutual
theorem rvT_len : ∀ t : Tm, (rvT t).length ≤ t.size
  | .mk k n s a => by
    have h := rvL_len [] a
    rw [rvT]
    simp only [Tm.size]
    split
    · simp
    · simp only [List.length_nil, Nat.zero_add] at h; omega
theorem rvL_len : ∀ (M : List Int) (l : List Tm), (rvL M l).length ≤ M.length + sizeL l
  | M, [] => by simp [rvL, sizeL]
  | M, t :: l => by
    have h1 := rvL_len ((rvT t).foldl numL M) l
    have h2 := rvT_len t
    have h3 := fold_len (rvT t) M
    rw [rvL]
    simp only [sizeL]
    omega
end

theorem place_mem : ∀ {L : List Int} {n : Int}, (place L n).isSome = true ↔ n ∈ L
  | [], n => by simp [place]
  | x :: L, n => by
    unfold place
    split
    · rename_i e; simp [e]
    · rename_i e; rw [Option.isSome_map, place_mem]; simp [e]
theorem numL_in {L : List Int} {n : Int} (h : n ∈ L) : numL L n = L := by unfold numL; rw [if_pos (place_mem.2 h)]
theorem numL_out {L : List Int} {n : Int} (h : n ∉ L) : numL L n = L ++ [n] := by unfold numL; rw [if_neg fun e => h (place_mem.1 e)]
theorem mem_numL {L : List Int} {n y : Int} (h : y ∈ L) : y ∈ numL L n := by unfold numL; split; exact h; exact List.mem_append_left _ h
theorem self_numL (L : List Int) (n : Int) : n ∈ numL L n := by
  by_cases h : n ∈ L
  · rw [numL_in h]; exact h
  · rw [numL_out h]; simp
theorem mem_fold : ∀ {X L : List Int} {y : Int}, y ∈ L ∨ y ∈ X → y ∈ X.foldl numL L
  | [], L, y, h => by simpa using h
  | x :: X, L, y, h => by
    rw [List.foldl_cons]
    apply mem_fold
    rcases h with h | h
    · exact .inl (mem_numL h)
    · rcases List.mem_cons.1 h with rfl | h
      · exact .inl (self_numL _ _)
      · exact .inr h
theorem fold_num (L M : List Int) (x : Int) : (numL M x).foldl numL L = numL (M.foldl numL L) x := by
  by_cases h : x ∈ M
  · rw [numL_in h, numL_in (mem_fold (.inr h))]
  · rw [numL_out h, List.foldl_append]; rfl
theorem fold_fold : ∀ (X L M : List Int), (X.foldl numL M).foldl numL L = X.foldl numL (M.foldl numL L)
  | [], L, M => rfl
  | x :: X, L, M => by
    rw [List.foldl_cons, List.foldl_cons, fold_fold X, fold_num]
mutual
theorem parts_rv : ∀ (t : Tm) (d : Int) (L : List Int), nfT t = true → (parts d t).foldl takeL L = (rvT t).foldl numL L
  | .mk k n s a, d, L, h => by
    rw [parts, rvT, List.foldl_cons]
    by_cases hk : k = 1
    · have ha : a = [] := by
        simp only [nfT, Bool.and_eq_true] at h
        subst hk
        simp at h
        exact h.1.1
      subst ha
      rw [if_pos hk]
      simp [takeL, Tm.k, Tm.n, hk, partsL]
    · have h2 : nfL a = true := by
        simp only [nfT, Bool.and_eq_true] at h
        exact h.2
      rw [if_neg hk]
      have := partsL_rv a (d + 1) L [] h2
      rw [List.foldl_nil] at this
      have e : takeL L (Tm.mk k n s a, d) = L := by simp [takeL, Tm.k, hk]
      rw [e, this]
theorem partsL_rv : ∀ (l : List Tm) (d : Int) (L M : List Int), nfL l = true → (partsL d l).foldl takeL (M.foldl numL L) = (rvL M l).foldl numL L
  | [], d, L, M, h => by simp [partsL, rvL]
  | t :: l, d, L, M, h => by
    simp only [nfL, Bool.and_eq_true] at h
    rw [partsL, rvL, List.foldl_append, parts_rv t d _ h.1, ← fold_fold, partsL_rv l d L _ h.2]
end
/-- no number is told twice -/
def Own1 (M : List Int) : Prop := M.foldl numL [] = M
theorem own1_fold {M X : List Int} (h : Own1 M) : Own1 (X.foldl numL M) := by unfold Own1 at *; rw [fold_fold, h]
theorem rvL_own : ∀ (l : List Tm) (M : List Int), Own1 M → Own1 (rvL M l)
  | [], M, h => h
  | t :: l, M, h => by rw [rvL]; exact rvL_own l _ (own1_fold h)
theorem rvT_own (t : Tm) : Own1 (rvT t) := by
  obtain ⟨k, n, s, a⟩ := t
  rw [rvT]
  split
  · rfl
  · exact rvL_own a [] rfl
theorem vars_rv (t : Tm) (h : nfT t = true) : varsT t = rvT t := by
  unfold varsT varsD
  rw [parts_rv t 1 [] h]
  exact rvT_own t

mutual
/-- each variable's number is its place in a list -/
def rrT (L : List Int) : Tm → Tm
  | .mk k n s a => if k = 1 then .mk 1 (placeI L n) ⟨#[]⟩ [] else .mk k n s (rrL L a)
def rrL (L : List Int) : List Tm → List Tm
  | [] => []
  | t :: l => rrT L t :: rrL L l
end
theorem rrL_len (L : List Int) : ∀ l, (rrL L l).length = l.length
  | [] => rfl
  | t :: l => by simp [rrL, rrL_len L l]
theorem rrL_take (L : List Int) : ∀ (l : List Tm) (q : Nat) (h : q < l.length), rrL L (l.take (q + 1)) = rrL L (l.take q) ++ [rrT L l[q]]
  | t :: l, 0, _ => by simp [rrL]
  | t :: l, q + 1, h => by
    simp only [List.take_succ_cons, rrL, List.getElem_cons_succ, List.cons_append]
    rw [rrL_take L l q (by simpa using h)]
theorem rvL_mem : ∀ (l : List Tm) (M : List Int) (y : Int), y ∈ M → y ∈ rvL M l
  | [], M, y, h => h
  | t :: l, M, y, h => by rw [rvL]; exact rvL_mem l _ y (mem_fold (.inl h))
theorem num_place {L : List Int} {n : Int} (h : n ∈ L) : (numP L n : Int) = placeI L n := by
  have := place_mem.2 h
  unfold numP placeI
  cases hp : place L n with
  | none => rw [hp] at this; cases this
  | some p => rfl
mutual
theorem ren_rr (L : List Int) : ∀ t : Tm, nfT t = true → (∀ y ∈ rvT t, y ∈ L) → renT (fun n => (numP L n : Int)) t = rrT L t
  | .mk k n s a, h, hv => by
    rw [renT, rrT]
    by_cases hk : k = 1
    · have ha : a = [] ∧ s.data.toList = [] := by
        simp only [nfT, Bool.and_eq_true] at h
        subst hk
        simp at h
        exact ⟨h.1.1, by rw [h.1.2]⟩
      obtain ⟨rfl, hs⟩ := ha
      obtain ⟨⟨sl⟩⟩ := s
      simp only at hs
      subst hs
      have hn : n ∈ L := hv n (by rw [rvT, if_pos hk]; simp)
      rw [if_pos hk, if_pos hk, num_place hn, hk, renL]
    · have h2 : nfL a = true := by
        simp only [nfT, Bool.and_eq_true] at h
        exact h.2
      rw [if_neg hk, if_neg hk, renL_rr L a [] h2 fun y hy => hv y (by rw [rvT, if_neg hk]; exact hy)]
theorem renL_rr (L : List Int) : ∀ (l : List Tm) (M : List Int), nfL l = true → (∀ y ∈ rvL M l, y ∈ L) → renL (fun n => (numP L n : Int)) l = rrL L l
  | [], M, h, hv => by rw [renL, rrL]
  | t :: l, M, h, hv => by
    simp only [nfL, Bool.and_eq_true] at h
    rw [renL, rrL, ren_rr L t h.1 fun y hy => hv y (by rw [rvL]; exact rvL_mem l _ y (mem_fold (.inr hy))), renL_rr L l _ h.2 fun y hy => hv y (by rw [rvL]; exact hy)]
end
/-- numbered as the reference numbers -/
theorem num_rr (t : Tm) (h : nfT t = true) : numT t = rrT (rvT t) t := by
  unfold numT
  rw [vars_rv t h]
  exact ren_rr _ t h fun y hy => hy
end Go.Proofs.Ytilmfkpflecghaa.Tms
