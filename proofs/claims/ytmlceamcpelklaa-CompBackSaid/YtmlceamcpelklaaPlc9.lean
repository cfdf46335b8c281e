
/-
  Layer 19, plain: what was compiled is told back as the same clause, but for its variables' numbers; numbered, it is the same. No program stands here.
-/
import Derived.Test.YtmlceamcpelklaaPlb
namespace Go.Proofs.Ytmlceamcpelklaa.Tms
open Go Go.RowKit Go.Proofs.Ytmlceamcpelklaa.Cod
set_option linter.unusedVariables false
set_option linter.unusedSimpArgs false

/-- the number that a variable is told back as: D: all variables as they come -/
def psi (D : List Int) (n : Int) : Int :=
  if oneB D n = true then (((D.foldl (stepS (oneB D)) []).length + (place (D.filter (oneB D)) n).getD 0 : Nat) : Int) else (((place (D.foldl (stepS (oneB D)) []) n).getD 0 : Nat) : Int)
theorem place_mid {A B : List Int} {n : Int} (h : n ∉ A) : place (A ++ n :: B) n = some A.length := by
  induction A with
  | nil => simp [place]
  | cons x A ih =>
    simp only [List.mem_cons, not_or] at h
    simp only [List.cons_append, place, if_neg h.1, ih h.2, Option.map_some, List.length_cons]
theorem count_one {P Q : List Int} {n : Int} (h : (P ++ n :: Q).count n = 1) : n ∉ P := by
  intro hn
  have := List.count_pos_iff.2 hn
  rw [List.count_append, List.count_cons] at h
  simp at h
  omega
theorem psi_one {D P Q : List Int} {n : Int} (hD : D = P ++ n :: Q) (h : oneB D n = true) : psi D n = (((D.foldl (stepS (oneB D)) []).length + (P.filter (oneB D)).length : Nat) : Int) := by
  unfold psi
  rw [if_pos h]
  have hc : D.count n = 1 := by unfold oneB at h; simpa using h
  have hn : n ∉ P := count_one (by rw [← hD]; exact hc)
  have hf : D.filter (oneB D) = P.filter (oneB D) ++ n :: Q.filter (oneB D) := by
    conv => lhs; rw [hD]
    rw [List.filter_append, List.filter_cons, ← hD, if_pos h]
  rw [hf, place_mid fun h => hn (List.mem_filter.1 h).1]
  rfl
theorem psi_more {D P Q : List Int} {n : Int} (hD : D = P ++ n :: Q) (h : oneB D n = false) : psi D n = ((numP (P.foldl (stepS (oneB D)) []) n : Nat) : Int) := by
  unfold psi
  rw [if_neg (by rw [h]; decide)]
  obtain ⟨M, hM⟩ := step_app (oneB D) Q (stepS (oneB D) (P.foldl (stepS (oneB D)) []) n)
  have hf : D.foldl (stepS (oneB D)) [] = numL (P.foldl (stepS (oneB D)) []) n ++ M := by
    conv => lhs; rw [hD]
    rw [List.foldl_append, List.foldl_cons, ← hD, hM]
    unfold stepS
    rw [if_neg (by rw [h]; decide)]
  rw [hf, place_app M (place_num _ n)]
  rfl
/-- the term is told back: P: the variables ahead of it -/
theorem take_patT (D : List Int) : ∀ t, mayT t = true → ∀ (P Q : List Int) (N : Nat) (tail : List Ins), D = P ++ (occT t ++ Q) → t.size ≤ N →
    takeT N ((patT (oneB D) (P.foldl (stepS (oneB D)) []) t).1 ++ tail) (((D.foldl (stepS (oneB D)) []).length + (P.filter (oneB D)).length : Nat) : Int) =
      (renT (psi D) t, tail, (((D.foldl (stepS (oneB D)) []).length + ((P ++ occT t).filter (oneB D)).length : Nat) : Int)) := by
  refine may_ind (fun n hn P Q N tail hD hN => ?_) (fun n P Q N tail hD hN => ?_) (fun s hs P Q N tail hD hN => ?_) fun s a h1 h2 h3 h4 ih P Q N tail hD hN => ?_
  · obtain ⟨N, rfl⟩ : ∃ M, N = M + 1 := ⟨N - 1, by simp [varT, Tm.size] at hN; omega⟩
    have hD' : D = P ++ n :: Q := by rw [hD]; simp [varT, occT, occL]
    have hr : renT (psi D) (varT n) = varT (psi D n) := by simp [varT, renT, renL]
    have ho : occT (varT n) = [n] := by simp [varT, occT, occL]
    rw [patT_var', hr, ho]
    unfold varP
    cases hone : oneB D n with
    | true =>
      rw [if_pos rfl, psi_one hD' hone]
      simp only [List.singleton_append, takeT, List.filter_append, List.length_append]
      rw [if_pos trivial, List.filter_cons, if_pos hone]
      simp
      omega
    | false =>
      rw [if_neg (by decide), psi_more hD' hone]
      cases hp : place (P.foldl (stepS (oneB D)) []) n with
      | some p =>
        have hnp : numP (P.foldl (stepS (oneB D)) []) n = p := by simp [numP, hp]
        rw [hnp]
        simp only [List.singleton_append, takeT, List.filter_append, List.length_append]
        rw [if_neg (by decide), if_pos (.inr trivial), List.filter_cons, if_neg (by rw [hone]; decide)]
        simp
      | none =>
        have hnp : numP (P.foldl (stepS (oneB D)) []) n = (P.foldl (stepS (oneB D)) []).length := by simp [numP, hp]
        rw [hnp]
        simp only [List.singleton_append, takeT, List.filter_append, List.length_append]
        rw [if_neg (by decide), if_pos (.inl trivial), List.filter_cons, if_neg (by rw [hone]; decide)]
        simp
  · obtain ⟨N, rfl⟩ : ∃ M, N = M + 1 := ⟨N - 1, by simp [intT, Tm.size] at hN; omega⟩
    rw [patT_int']
    simp [takeT, intT, renT, renL, occT, occL]
  · obtain ⟨N, rfl⟩ : ∃ M, N = M + 1 := ⟨N - 1, by simp [atomT, Tm.size] at hN; omega⟩
    rw [patT_atom']
    simp [takeT, atomT, renT, renL, occT, occL]
  · obtain ⟨N, rfl⟩ : ∃ M, N = M + 1 := ⟨N - 1, by simp [compT, Tm.size] at hN; omega⟩
    have hN' : sizeL a ≤ N := by simp [compT, Tm.size] at hN; omega
    have ho : occT (compT s a) = occL a := by simp [compT, occT]
    have hr : renT (psi D) (compT s a) = compT s (renL (psi D) a) := by simp [compT, renT]
    rw [ho] at hD
    rw [patT_comp', ho, hr]
    have key : ∀ (l : List Tm), (∀ t ∈ l, ∀ (P Q : List Int) (N : Nat) (tail : List Ins), D = P ++ (occT t ++ Q) → t.size ≤ N →
        takeT N ((patT (oneB D) (P.foldl (stepS (oneB D)) []) t).1 ++ tail) (((D.foldl (stepS (oneB D)) []).length + (P.filter (oneB D)).length : Nat) : Int) =
          (renT (psi D) t, tail, (((D.foldl (stepS (oneB D)) []).length + ((P ++ occT t).filter (oneB D)).length : Nat) : Int))) → mayTL l = true → ∀ (P Q : List Int), D = P ++ (occL l ++ Q) → sizeL l ≤ N →
        takeN (takeT N) l.length ((patL (oneB D) (P.foldl (stepS (oneB D)) []) l).1 ++ tail) (((D.foldl (stepS (oneB D)) []).length + (P.filter (oneB D)).length : Nat) : Int) =
          (renL (psi D) l, tail, (((D.foldl (stepS (oneB D)) []).length + ((P ++ occL l).filter (oneB D)).length : Nat) : Int)) := by
      intro l
      induction l with
      | nil => intro _ _ P Q _ _; simp [patL, takeN, renL, occL]
      | cons x l ihl =>
        intro h hm P Q hD hs
        simp only [mayTL, Bool.and_eq_true] at hm
        simp only [sizeL] at hs
        have hx := h x (by simp) P (occL l ++ Q) N ((patL (oneB D) (patT (oneB D) (P.foldl (stepS (oneB D)) []) x).2 l).1 ++ tail) (by rw [hD]; simp [occL]) (by omega)
        have hl := ihl (fun t ht => h t (by simp [ht])) hm.2 (P ++ occT x) Q (by rw [hD]; simp [occL]) (by omega)
        have hs2 : (patT (oneB D) (P.foldl (stepS (oneB D)) []) x).2 = (P ++ occT x).foldl (stepS (oneB D)) [] := by rw [(patT_slots (oneB D) x hm.1 _).1, List.foldl_append]
        rw [hs2] at hx
        simp only [patL, List.length_cons, takeN, List.append_assoc, hs2]
        rw [hx]
        simp only
        rw [hl]
        simp [renL, occL]
    have hk := key a ih h4 P Q hD hN'
    simp only [List.cons_append, takeT]
    rw [if_neg (by decide), if_neg (by decide), if_neg (by decide), if_neg (by decide)]
    rw [show ((a.length : Nat) : Int).toNat = a.length by simp, hk]

theorem place_inj : ∀ {l : List Int} {m n : Int} {p : Nat}, place l m = some p → place l n = some p → m = n
  | x :: l, m, n, p, h1, h2 => by
    simp only [place] at h1 h2
    by_cases e1 : m = x
    · rw [if_pos e1] at h1
      by_cases e2 : n = x
      · rw [e1, e2]
      · rw [if_neg e2] at h2
        cases hp : place l n with
        | none => rw [hp] at h2; cases h2
        | some q => rw [hp] at h2; simp at h1 h2; omega
    · rw [if_neg e1] at h1
      cases hq : place l m with
      | none => rw [hq] at h1; cases h1
      | some q =>
        rw [hq] at h1
        by_cases e2 : n = x
        · rw [if_pos e2] at h2; simp at h1 h2; omega
        · rw [if_neg e2] at h2
          cases hp : place l n with
          | none => rw [hp] at h2; cases h2
          | some r =>
            rw [hp] at h2
            simp at h1 h2
            obtain rfl : q = r := by omega
            exact place_inj hq hp
theorem psi_ge (D : List Int) (n : Int) : 0 ≤ psi D n := by unfold psi; split <;> omega
theorem psi_place {D : List Int} {n : Int} (h : n ∈ D) : (oneB D n = true ∧ ∃ p, place (D.filter (oneB D)) n = some p ∧ psi D n = (((D.foldl (stepS (oneB D)) []).length + p : Nat) : Int)) ∨ (oneB D n = false ∧ ∃ p, place (D.foldl (stepS (oneB D)) []) n = some p ∧ psi D n = (p : Int)) := by
  obtain ⟨P, Q, hD⟩ := List.append_of_mem h
  cases hone : oneB D n with
  | true =>
    left
    have hz : (place (D.filter (oneB D)) n).isSome = true := place_mem.2 (List.mem_filter.2 ⟨h, hone⟩)
    obtain ⟨p, hp⟩ := Option.isSome_iff_exists.1 hz
    refine ⟨rfl, p, hp, ?_⟩
    unfold psi
    rw [if_pos hone, hp]
    rfl
  | false =>
    right
    obtain ⟨M, hM⟩ := step_app (oneB D) Q (stepS (oneB D) (P.foldl (stepS (oneB D)) []) n)
    have hf : D.foldl (stepS (oneB D)) [] = numL (P.foldl (stepS (oneB D)) []) n ++ M := by
      conv => lhs; rw [hD]
      rw [List.foldl_append, List.foldl_cons, ← hD, hM]
      unfold stepS
      rw [if_neg (by rw [hone]; decide)]
    exact ⟨rfl, numP (P.foldl (stepS (oneB D)) []) n, by rw [hf]; exact place_app M (place_num _ n), psi_more hD hone⟩
theorem psi_inj {D : List Int} {m n : Int} (hm : m ∈ D) (hn : n ∈ D) (h : psi D m = psi D n) : m = n := by
  rcases psi_place hm with ⟨-, p, h1, h2⟩ | ⟨-, p, h1, h2⟩
  · rcases psi_place hn with ⟨-, q, h3, h4⟩ | ⟨-, q, h3, h4⟩
    · obtain rfl : p = q := by rw [h2, h4] at h; omega
      exact place_inj h1 h3
    · have := place_lt h3; rw [h2, h4] at h; omega
  · rcases psi_place hn with ⟨-, q, h3, h4⟩ | ⟨-, q, h3, h4⟩
    · have := place_lt h1; rw [h2, h4] at h; omega
    · obtain rfl : p = q := by rw [h2, h4] at h; omega
      exact place_inj h1 h3
theorem compE_ren2 {φ : Int → Int} (hφ : ∀ n, 0 ≤ n → 0 ≤ φ n) {h b : Tm} (m1 : mayT h = true) (m2 : mayT b = true) (hinj : ∀ m n, m ∈ occT h ++ occT b → n ∈ occT h ++ occT b → φ m = φ n → m = n) : compE (renT φ h) (renT φ b) = compE h b := by
  have hD : occT (renT φ h) ++ occT (renT φ b) = (occT h ++ occT b).map φ := by rw [occT_ren, occT_ren, List.map_append]
  have hone : ∀ n, n ∈ occT h ++ occT b → oneB ((occT h ++ occT b).map φ) (φ n) = oneB (occT h ++ occT b) n := fun n hn => by
    unfold oneB
    rw [count_map _ fun m hm e => hinj m n hm hn e]
  have hc : compC (renT φ h) (renT φ b) = compC h b := by
    obtain ⟨hs, ha⟩ := renT_parts φ h
    have hl := patL_ren (φ := φ) (V := fun n => n ∈ occT h ++ occT b) (one := oneB (occT h ++ occT b)) (one' := oneB ((occT h ++ occT b).map φ)) (fun x y a b e => hinj x y a b e) hone h.args [] (by simp) (fun n hn => List.mem_append_left _ (occ_args n hn))
    have ht := patT_ren (φ := φ) (V := fun n => n ∈ occT h ++ occT b) (one := oneB (occT h ++ occT b)) (one' := oneB ((occT h ++ occT b).map φ)) (fun x y a b e => hinj x y a b e) hone b _ hl.2 (fun n hn => List.mem_append_right _ hn)
    have hl1 := hl.1
    rw [List.map_nil] at hl1
    unfold compC
    rw [hD, hs, ha, renL_len, hl1]
    simp only
    rw [ht.1]
    simp
  unfold compE
  rw [checkT_ren _ hφ h m1, checkT_ren _ hφ b m2, renT_k, renT_size, renT_size, hc]

mutual
theorem flat_occ : ∀ (t : Tm) (L : List Int), (flatT t).foldl takeL L = (occT t).foldl numL L
  | .mk k n s a, L => by
    simp only [flatT, List.foldl_cons, occT]
    rw [flat_occL a]
    unfold takeL
    by_cases k1 : k = 1
    · simp [k1, Tm.k, Tm.n]
    · simp [k1, Tm.k]
theorem flat_occL : ∀ (l : List Tm) (L : List Int), (flatL l).foldl takeL L = (occL l).foldl numL L
  | [], L => by simp [flatL, occL]
  | t :: l, L => by simp only [flatL, occL, List.foldl_append, flat_occ t, flat_occL l]
end
theorem varsT_occ (t : Tm) : varsT t = (occT t).foldl numL [] := by rw [← varsT_flat]; exact flat_occ t []
mutual
theorem renT_comp (f g : Int → Int) : ∀ t : Tm, renT f (renT g t) = renT (fun n => f (g n)) t
  | .mk k n s a => by
    have := renL_comp f g a
    by_cases k1 : k = 1 <;> simp [renT, k1, this]
theorem renL_comp (f g : Int → Int) : ∀ l : List Tm, renL f (renL g l) = renL (fun n => f (g n)) l
  | [] => by simp [renL]
  | t :: l => by simp [renL, renT_comp f g t, renL_comp f g l]
end
mutual
theorem renT_congr {f g : Int → Int} : ∀ t : Tm, (∀ n ∈ occT t, f n = g n) → renT f t = renT g t
  | .mk k n s a, h => by
    by_cases k1 : k = 1
    · have h1 := h n (by simp [occT, k1])
      have := renL_congr a fun m hm => h m (by simp [occT, k1, hm])
      simp [renT, k1, this, h1]
    · have := renL_congr a fun m hm => h m (by simp [occT, k1, hm])
      simp [renT, k1, this]
theorem renL_congr {f g : Int → Int} : ∀ l : List Tm, (∀ n ∈ occL l, f n = g n) → renL f l = renL g l
  | [], _ => by simp [renL]
  | t :: l, h => by
    rw [renL, renL, renT_congr t fun n hn => h n (by simp [occL, hn]), renL_congr l fun n hn => h n (by simp [occL, hn])]
end
theorem fold_map {φ : Int → Int} {V : Int → Prop} (hφ : ∀ x y, V x → V y → φ x = φ y → x = y) : ∀ (D L : List Int), (∀ n ∈ D, V n) → (∀ n ∈ L, V n) → (D.map φ).foldl numL (L.map φ) = (D.foldl numL L).map φ ∧ ∀ n ∈ D.foldl numL L, V n
  | [], L, _, hL => ⟨rfl, hL⟩
  | n :: D, L, hD, hL => by
    have hn := hD n (by simp)
    have e : numL (L.map φ) (φ n) = (numL L n).map φ := by
      unfold numL
      rw [place_map hφ L n hL hn]
      split <;> simp
    have hV : ∀ m ∈ numL L n, V m := by
      unfold numL
      intro m hm
      split at hm
      · exact hL m hm
      · rcases List.mem_append.1 hm with h | h
        · exact hL m h
        · rw [List.mem_singleton.1 h]; exact hn
    simp only [List.map_cons, List.foldl_cons, e]
    exact fold_map hφ D (numL L n) (fun m hm => hD m (by simp [hm])) hV
theorem numT_ren {φ : Int → Int} (t : Tm) (hinj : ∀ m n, m ∈ occT t → n ∈ occT t → φ m = φ n → m = n) : numT (renT φ t) = numT t := by
  have hv := fold_map (φ := φ) (V := fun n => n ∈ occT t) (fun x y a b e => hinj x y a b e) (occT t) [] (fun n hn => hn) (by simp)
  have e : varsT (renT φ t) = (varsT t).map φ := by rw [varsT_occ, varsT_occ, occT_ren]; exact hv.1
  unfold numT
  rw [e, renT_comp]
  refine renT_congr t fun n hn => ?_
  have hp := place_map (φ := φ) (V := fun n => n ∈ occT t) (fun x y a b e => hinj x y a b e) (varsT t) n (by rw [varsT_occ]; exact hv.2) hn
  simp only [numP, hp, List.length_map]

/-- told back -/
theorem back_comp {h b : Tm} (mh : mayT h = true) (mb : mayT b = true) (hk : h.k = 3 ∨ h.k = 4) (hs : h.size + b.size ≤ 2000) :
    backE (compC h b) = (renT (psi (occT h ++ occT b)) h, renT (psi (occT h ++ occT b)) b, 0) := by
  have hchk := compC_ok mh mb hk (by omega)
  have hsz : h.size = sizeL h.args + 1 := by obtain ⟨k, n, s, ar⟩ := h; simp [Tm.size, Tm.args]
  have hargs : mayTL h.args = true := by
    rcases may_form mh with ⟨n, h1, rfl⟩ | ⟨n, rfl⟩ | ⟨s, h1, rfl⟩ | ⟨s, a, h1, h2, h3, h4, rfl⟩
    · simp [varT, Tm.k] at hk
    · simp [intT, Tm.k] at hk
    · rfl
    · exact h4
  have hoh : occT h = occL h.args := occT_not (by omega)
  generalize hDD : occT h ++ occT b = D
  have hl : (compC h b).l = (patL (oneB D) [] h.args).1 ++ (patT (oneB D) (patL (oneB D) [] h.args).2 b).1 := by rw [← hDD]; rfl
  have hsl : (compC h b).slots = ((D.foldl (stepS (oneB D)) []).length : Nat) := by
    have e : (compC h b).slots = ((patT (oneB D) (patL (oneB D) [] h.args).2 b).2.length : Nat) := by rw [← hDD]; rfl
    rw [e, (patT_slots (oneB D) b mb _).1, (patL_slots (oneB D) hargs []).1, ← hoh, ← List.foldl_append, hDD]
  have hlen : (compC h b).l.length = sizeL h.args + b.size := by rw [hl, List.length_append, (patL_slots (oneB D) hargs []).2, (patT_slots (oneB D) b mb _).2]
  have hA : bkA (compC h b) = (renL (psi D) h.args, (patT (oneB D) (patL (oneB D) [] h.args).2 b).1, (((D.foldl (stepS (oneB D)) []).length + (((occT h).filter (oneB D)).length) : Nat) : Int)) := by
    have key : ∀ (N : Nat) (l : List Tm), mayTL l = true → sizeL l ≤ N → ∀ (P Q : List Int) (tail : List Ins), D = P ++ (occL l ++ Q) →
        takeN (takeT N) l.length ((patL (oneB D) (P.foldl (stepS (oneB D)) []) l).1 ++ tail) (((D.foldl (stepS (oneB D)) []).length + (P.filter (oneB D)).length : Nat) : Int) =
          (renL (psi D) l, tail, (((D.foldl (stepS (oneB D)) []).length + ((P ++ occL l).filter (oneB D)).length : Nat) : Int)) := by
      intro N l
      induction l with
      | nil => intro _ _ P Q tail _; simp [patL, takeN, renL, occL]
      | cons x l ihl =>
        intro hm hs P Q tail hD
        simp only [mayTL, Bool.and_eq_true] at hm
        simp only [sizeL] at hs
        have hx := take_patT D x hm.1 P (occL l ++ Q) N ((patL (oneB D) (patT (oneB D) (P.foldl (stepS (oneB D)) []) x).2 l).1 ++ tail) (by rw [hD]; simp [occL]) (by omega)
        have hl := ihl hm.2 (by omega) (P ++ occT x) Q tail (by rw [hD]; simp [occL])
        have hs2 : (patT (oneB D) (P.foldl (stepS (oneB D)) []) x).2 = (P ++ occT x).foldl (stepS (oneB D)) [] := by rw [(patT_slots (oneB D) x hm.1 _).1, List.foldl_append]
        rw [hs2] at hx
        simp only [patL, List.length_cons, takeN, List.append_assoc, hs2]
        rw [hx]
        simp only
        rw [hl]
        simp [renL, occL]
    have h1 := key (compC h b).l.length h.args hargs (by rw [hlen]; omega) [] (occT b) (patT (oneB D) (patL (oneB D) [] h.args).2 b).1 (by rw [← hDD, hoh]; rfl)
    unfold bkA
    rw [show (compC h b).args.toNat = h.args.length by show ((h.args.length : Nat) : Int).toNat = _; simp, hsl]
    simp only [List.foldl_nil, List.filter_nil, List.length_nil, Nat.add_zero, List.nil_append] at h1
    rw [← hl] at h1
    rw [h1, hoh]
  have hB : bkB (compC h b) = renT (psi D) b := by
    unfold bkB
    rw [hA]
    have h2 := take_patT D b mb (occT h) [] (compC h b).l.length [] (by rw [← hDD]; simp) (by rw [hlen]; omega)
    have hs2 : (patL (oneB D) [] h.args).2 = (occT h).foldl (stepS (oneB D)) [] := by rw [(patL_slots (oneB D) hargs []).1, hoh]
    rw [hs2]
    rw [List.append_nil] at h2
    simp only
    rw [h2]
  have hH : bkH (compC h b) = renT (psi D) h := by
    unfold bkH
    rw [hA]
    have hca : (compC h b).args = h.args.length := rfl
    have hcn : (compC h b).name = h.s := rfl
    rw [hca, hcn]
    rcases may_form mh with ⟨n, h1, rfl⟩ | ⟨n, rfl⟩ | ⟨s, h1, rfl⟩ | ⟨s, a, h1, h2, h3, h4, rfl⟩
    · simp [varT, Tm.k] at hk
    · simp [intT, Tm.k] at hk
    · rw [if_neg (by simp [atomT, Tm.args])]; simp [atomT, renT, renL, Tm.s]
    · rw [if_pos (by simp [compT, Tm.args]; omega)]; simp [compT, renT, Tm.s, Tm.args]
  have d1 := deep_le (renT (psi D) h)
  have d2 := deep_le (renT (psi D) b)
  rw [renT_size] at d1 d2
  unfold backE
  rw [if_neg (by rw [hchk]; simp), hH, hB, if_neg (by omega)]
end Go.Proofs.Ytmlceamcpelklaa.Tms
