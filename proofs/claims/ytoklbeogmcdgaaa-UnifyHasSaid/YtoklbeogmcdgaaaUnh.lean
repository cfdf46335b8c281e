
/-
  UnifyHas, plain: a variable is in a term just if it is among its variables.
-/
import Derived.Test.YtoklbeogmcdgaaaUnq
import Derived.Test.YtoklbeogmcdgaaaNum
namespace Go.Proofs.Ytoklbeogmcdgaaa.Tms
open Go Go.RowKit Go.Proofs.Ytoklbeogmcdgaaa.Reg Go.Proofs.Ytoklbeogmcdgaaa.Rws Go.Proofs.Ytoklbeogmcdgaaa.Maps
set_option linter.unusedVariables false
set_option linter.unusedSimpArgs false

mutual
/-- the numbers of a term's variables -/
def ocT : Tm → List Int
  | .mk k n _ a => if k = 1 then n :: ocL a else ocL a
def ocL : List Tm → List Int
  | [] => []
  | t :: l => ocT t ++ ocL l
end
mutual
theorem flat_oc : ∀ (t : Tm) (L : List Int), (flatT t).foldl takeL L = (ocT t).foldl numL L
  | .mk k n s a, L => by
    simp only [flatT, List.foldl_cons, ocT]
    rw [flat_ocL a]
    unfold takeL
    by_cases k1 : k = 1
    · simp [k1, Tm.k, Tm.n]
    · simp [k1, Tm.k]
theorem flat_ocL : ∀ (l : List Tm) (L : List Int), (flatL l).foldl takeL L = (ocL l).foldl numL L
  | [], L => by simp [flatL, ocL]
  | t :: l, L => by simp only [flatL, ocL, List.foldl_append, flat_oc t, flat_ocL l]
end
theorem varsT_oc (t : Tm) : varsT t = (ocT t).foldl numL [] := by rw [← varsT_flat]; exact flat_oc t []
theorem num_mem : ∀ (l L : List Int) (n : Int), n ∈ l.foldl numL L → n ∈ L ∨ n ∈ l
  | [], L, n, h => .inl h
  | a :: l, L, n, h => by
    rw [List.foldl_cons] at h
    rcases num_mem l _ n h with h | h
    · unfold numL at h
      split at h
      · exact .inl h
      · rcases List.mem_append.1 h with h | h
        · exact .inl h
        · exact .inr (by simp only [List.mem_singleton] at h; rw [h]; exact List.mem_cons_self ..)
    · exact .inr (List.mem_cons_of_mem _ h)
theorem vars_oc {t : Tm} {n : Int} (h : n ∈ varsT t) : n ∈ ocT t := by
  rw [varsT_oc] at h
  exact (num_mem _ _ n h).resolve_left (by simp)
theorem ocL_append (l m : List Tm) : ocL (l ++ m) = ocL l ++ ocL m := by
  induction l with
  | nil => rfl
  | cons t l ih => simp [ocL, ih]
mutual
/-- has, over a tree: found, or all of it was looked at -/
theorem hasP_tr {S : Sto} {v : Nat} (hv : ∃ c, S.cells[v]? = some c ∧ c.k = 1) : ∀ (t : Tm) (x k : Nat) (l : List Nat), Tr S t x → t.size ≤ k →
    if (v : Int) ∈ ocT t then ∃ k', hasP S v k (x :: l) = (some true, k') else hasP S v k (x :: l) = hasP S v (k - t.size) l
  | .mk kk n s ts, x, k, l, h, hk => by
    unfold Tr at h
    obtain ⟨c, h1, h2, h3⟩ := h
    simp only [Tm.size] at hk ⊢
    obtain ⟨k, rfl⟩ : ∃ j, k = j + 1 := ⟨k - 1, by omega⟩
    have hc : cellF S x = c := by unfold cellF; rw [h1]; rfl
    have hstep : hasP S v (k + 1) (x :: l) = if fol S x = v then (some true, k) else hasP S v k (argN S x ++ l) := rfl
    have harg : argN S x = c.args.map Int.toNat := by unfold argN; rw [hc]
    rw [hstep, harg]
    unfold shellC at h2
    by_cases hck : c.k = 1
    · rw [if_pos hck] at h2
      simp only [Tm.mk.injEq] at h2
      obtain ⟨e1, e2, -, -⟩ := h2
      subst e1 e2
      have ih := hasL_tr hv ts c.args k l h3 (by omega)
      by_cases e : fol S x = v
      · rw [if_pos e, if_pos (by simp [ocT, e])]
        exact ⟨k, rfl⟩
      · rw [if_neg e]
        have hne : ¬ (v : Int) = (fol S x : Int) := by omega
        simp only [ocT, if_true, List.mem_cons, hne, false_or]
        rw [show k + 1 - (sizeL ts + 1) = k - sizeL ts by omega]
        exact ih
    · rw [if_neg hck] at h2
      simp only [Tm.mk.injEq] at h2
      obtain ⟨e1, -, -, -⟩ := h2
      have hne : fol S x ≠ v := fun e => by
        obtain ⟨d, hd, hdk⟩ := hv
        rw [← e, h1] at hd
        simp only [Option.some.injEq] at hd
        rw [hd] at hck
        exact hck hdk
      rw [if_neg hne]
      have ih := hasL_tr hv ts c.args k l h3 (by omega)
      simp only [ocT, if_neg (show ¬ kk = 1 by rw [← e1]; exact hck)]
      rw [show k + 1 - (sizeL ts + 1) = k - sizeL ts by omega]
      exact ih
theorem hasL_tr {S : Sto} {v : Nat} (hv : ∃ c, S.cells[v]? = some c ∧ c.k = 1) : ∀ (ts : List Tm) (xs : List Int) (k : Nat) (l : List Nat), TrL S ts xs → sizeL ts ≤ k →
    if (v : Int) ∈ ocL ts then ∃ k', hasP S v k (xs.map Int.toNat ++ l) = (some true, k') else hasP S v k (xs.map Int.toNat ++ l) = hasP S v (k - sizeL ts) l
  | [], [], k, l, _, _ => by simp [ocL, sizeL]
  | t :: ts, a :: xs, k, l, h, hk => by
    unfold TrL at h
    simp only [sizeL] at hk ⊢
    have h1 := hasP_tr hv t a.toNat k (xs.map Int.toNat ++ l) h.1 (by omega)
    have h2 := hasL_tr hv ts xs (k - t.size) l h.2 (by omega)
    simp only [ocL, List.mem_append, List.map_cons, List.cons_append]
    by_cases e1 : (v : Int) ∈ ocT t
    · rw [if_pos e1] at h1
      rw [if_pos (.inl e1)]
      exact h1
    · rw [if_neg e1] at h1
      by_cases e2 : (v : Int) ∈ ocL ts
      · rw [if_pos e2] at h2
        rw [if_pos (.inr e2), h1]
        exact h2
      · rw [if_neg e2] at h2
        rw [if_neg (by rintro (e | e); exact e1 e; exact e2 e), h1, h2, show k - t.size - sizeL ts = k - (t.size + sizeL ts) by omega]
  | [], _ :: _, _, _, h, _ => by simp [TrL] at h
  | _ :: _, [], _, _, h, _ => by simp [TrL] at h
end
mutual
theorem oc_sub {σ : Int → Tm} {Q : Int → Prop} (h : ∀ n, ∀ y ∈ ocT (σ n), Q y) : ∀ (t : Tm), ∀ y ∈ ocT (subT σ t), Q y
  | .mk k n s a => by
    intro y hy
    by_cases k1 : k = 1
    · simp only [subT, if_pos k1] at hy
      exact h n y hy
    · simp only [subT, if_neg k1, ocT] at hy
      exact oc_subL h a y hy
theorem oc_subL {σ : Int → Tm} {Q : Int → Prop} (h : ∀ n, ∀ y ∈ ocT (σ n), Q y) : ∀ (l : List Tm), ∀ y ∈ ocL (subL σ l), Q y
  | [] => by intro y hy; simp [subL, ocL] at hy
  | t :: l => by
    intro y hy
    simp only [subL, ocL, List.mem_append] at hy
    rcases hy with hy | hy
    · exact oc_sub h t y hy
    · exact oc_subL h l y hy
end
mutual
/-- a variable of the tree is a cell that is one -/
theorem tr_var {S : Sto} : ∀ (t : Tm) (x : Nat), Tr S t x → ∀ y ∈ ocT t, ∃ (v : Nat) (c : SCell), y = v ∧ S.cells[v]? = some c ∧ c.k = 1
  | .mk k n s ts, x, h => by
    unfold Tr at h
    obtain ⟨c, h1, h2, h3⟩ := h
    intro y hy
    simp only [ocT] at hy
    split at hy
    · rename_i k1
      rcases List.mem_cons.1 hy with rfl | hy
      · unfold shellC at h2
        split at h2
        · rename_i hck
          simp only [Tm.mk.injEq] at h2
          exact ⟨_, c, h2.2.1.symm, h1, hck⟩
        · rename_i hck
          simp only [Tm.mk.injEq] at h2
          exact absurd (h2.1.trans k1) hck
      · exact tr_varL ts c.args h3 y hy
    · exact tr_varL ts c.args h3 y hy
theorem tr_varL {S : Sto} : ∀ (ts : List Tm) (xs : List Int), TrL S ts xs → ∀ y ∈ ocL ts, ∃ (v : Nat) (c : SCell), y = v ∧ S.cells[v]? = some c ∧ c.k = 1
  | [], [], _ => fun y hy => by simp [ocL] at hy
  | t :: ts, a :: xs, h => by
    unfold TrL at h
    intro y hy
    simp only [ocL, List.mem_append] at hy
    rcases hy with hy | hy
    · exact tr_var t _ h.1 y hy
    · exact tr_varL ts xs h.2 y hy
  | [], _ :: _, h => by simp [TrL] at h
  | _ :: _, [], h => by simp [TrL] at h
end
/-- the store of UnifyHas: a free variable, then a term -/
def hs1 : Sto := freshS st0
theorem hs1_inv : Inv hs1 := st0_inv.fresh (by decide)
theorem hs1_nl : NoLk hs1 := fun c hc => by
  simp only [hs1, freshS, addS, st0, List.nil_append, List.mem_singleton] at hc
  rw [hc]
structure HasIs (t : Tm) (x : Nat) (S : Sto) (M : List (Int × Int)) (T : Tm) : Prop where
  put : PutIs hs1 [] t x 0 S M
  tr : Tr S T x
  size : T.size ≤ t.size
  pos : ∀ y ∈ ocT T, y ≠ 0
  nl : NoLk S
  zero : ∃ c, S.cells[0]? = some c ∧ c.k = 1
theorem has_is {t : Tm} (hc : checkT t = 0) (hs : t.size ≤ 421) : ∃ x S M T, HasIs t x S M T := by
  have hl : hs1.cells.length = 1 := rfl
  have hf : (hs1.cells.length : Int) + t.size ≤ hs1.room := by rw [hl]; show (1 : Nat) + (t.size : Int) ≤ 1000; omega
  have hm := (MOk.nil hs1).may hc hf
  obtain ⟨e1, e2, e3⟩ := hm.eq
  obtain ⟨x, S, M, hp⟩ := put_is hs1_inv (MOk.nil hs1) hc hf
  have hS : S = putS hs1 [] t := by rw [← hp.w, e1]
  have hx : x = (putR hs1 [] t).1.toNat := by
    have := hp.a
    rw [e2] at this
    simp only [Prod.mk.injEq, and_true] at this
    omega
  refine ⟨x, S, M, subT (fun n => .mk 1 ((mget (putR hs1 [] t).2.2 n).getD 1) ⟨#[]⟩ []) t, hp, ?_, subT_size (fun n => by simp [Tm.size, sizeL]) t, ?_, by rw [hS]; exact hs1_nl.put hm, ?_⟩
  · rw [hS, hx]
    have hA := agree_put hs1 t
    refine put_tr (G := (putR hs1 [] t).2.2) (fun n a h => by simp [mget] at h) (fun n v _ h => ?_) t _ _ (check_may hc) hA (fun n v h => h)
    rcases put_new t hs1.cells.length [] (n, v) (mget_some h) with h1 | ⟨i, d, h1, h2, h3, h4, h5⟩
    · cases h1
    obtain ⟨c, hcc, g1, g2, g3, g4, g5⟩ := hA i d h1
    have hv : v.toNat = hs1.cells.length + i := by simp only at h2; omega
    have ef : fol (putS hs1 [] t) v.toNat = v.toNat := by rw [hv]; exact fol_root hcc (g5.trans h4)
    rw [h]
    unfold Tr
    rw [ef]
    refine ⟨c, by rw [hv]; exact hcc, ?_, by rw [g4, h5]; exact trivial⟩
    unfold shellC
    rw [if_pos (g1.trans h3), hv]
    simp only at h2
    rw [Option.getD_some, h2]
  · refine oc_sub (fun n y hy => ?_) t
    simp only [ocT, if_true, ocL, List.mem_singleton] at hy
    rw [hy]
    cases e : mget (putR hs1 [] t).2.2 n with
    | none => rw [Option.getD_none]; decide
    | some v =>
      rw [Option.getD_some]
      rcases put_new t hs1.cells.length [] (n, v) (mget_some e) with h1 | ⟨i, d, -, h2, -⟩
      · cases h1
      · simp only at h2
        rw [h2, hl]
        omega
  · rw [hS]
    refine ⟨_, plus_at (S := hs1) (by decide), rfl⟩
theorem HasIs.get {t T : Tm} {x : Nat} {S : Sto} {M : List (Int × Int)} (h : HasIs t x S M T) (hs : t.size ≤ 421) : getT S x = T ∧ getE S x = 0 := by
  have hsz := h.size
  have := get_of_tr h.tr (by omega)
  unfold getT getE
  rw [this]
  exact ⟨rfl, if_neg (by simp)⟩
/-- what Has tells of a variable of its list -/
theorem HasIs.has {t T : Tm} {x : Nat} {S : Sto} {M : List (Int × Int)} (h : HasIs t x S M T) (hs : t.size ≤ 421) {y : Int} (hy : y = 0 ∨ y ∈ varsT T) :
    ∃ v : Nat, y = v ∧ v < S.cells.length ∧ (cellF S v).k = 1 ∧ hasV S v x = some (decide (y ≠ 0)) ∧ hasV S v v = some true := by
  have hv : ∃ (v : Nat) (c : SCell), y = v ∧ S.cells[v]? = some c ∧ c.k = 1 := by
    rcases hy with rfl | hy
    · obtain ⟨c, h1, h2⟩ := h.zero
      exact ⟨0, c, rfl, h1, h2⟩
    · exact tr_var T x h.tr y (vars_oc hy)
  obtain ⟨v, c, rfl, hc, hk⟩ := hv
  have hlt := (List.getElem?_eq_some_iff.1 hc).1
  have hf : fol S v = v := h.nl.fol hlt
  have hcF : cellF S v = c := by unfold cellF; rw [hf, hc]; rfl
  have hsz := h.size
  refine ⟨v, rfl, hlt, by rw [hcF]; exact hk, ?_, ?_⟩
  · unfold hasV
    rw [hf]
    have ht := hasP_tr (v := v) ⟨c, hc, hk⟩ T x 20000 [] h.tr (by omega)
    by_cases e : (v : Int) ∈ ocT T
    · rw [if_pos e] at ht
      obtain ⟨k', hk'⟩ := ht
      rw [hk']
      have := h.pos _ e
      simp
      omega
    · rw [if_neg e] at ht
      rw [ht]
      have h0 : (v : Int) = 0 := by
        rcases hy with h0 | hy
        · exact h0
        · exact absurd (vars_oc hy) e
      obtain ⟨j, hj⟩ : ∃ j, 20000 - T.size = j + 1 := ⟨20000 - T.size - 1, by omega⟩
      rw [hj]
      show some false = _
      simp [h0]
  · unfold hasV
    rw [hf]
    show (hasP S v (19999 + 1) [v]).1 = _
    unfold hasP
    dsimp only
    rw [if_pos hf]
end Go.Proofs.Ytoklbeogmcdgaaa.Tms
