
/-
  Layer 11, plain: what is put and got is the same term but for its variables' numbers: numbered, it is the same. No program stands here.
-/
import Derived.Test.YtoklbeogmcdgaaaPlt
import Derived.Test.YtoklbeogmcdgaaaNup
namespace Go.Proofs.Ytoklbeogmcdgaaa.Tms
open Go Go.RowKit Go.Proofs.Ytoklbeogmcdgaaa.Reg Go.Proofs.Ytoklbeogmcdgaaa.Rws Go.Proofs.Ytoklbeogmcdgaaa.Maps
set_option linter.unusedVariables false
set_option linter.unusedSimpArgs false

mutual
/-- a term's variables, as they come -/
def vcT : Tm → List Int
  | .mk k n _ a => if k = 1 then n :: vcL a else vcL a
def vcL : List Tm → List Int
  | [] => []
  | t :: l => vcT t ++ vcL l
end
theorem place_mapv {φ : Int → Int} {V : Int → Prop} (hφ : ∀ x y, V x → V y → φ x = φ y → x = y) : ∀ (S : List Int) (n : Int), (∀ x ∈ S, V x) → V n → place (S.map φ) (φ n) = place S n
  | [], n, _, _ => rfl
  | x :: S, n, hS, hn => by
    have ih := place_mapv hφ S n (fun y hy => hS y (List.mem_cons_of_mem _ hy)) hn
    simp only [List.map_cons, place, ih]
    by_cases h : n = x
    · rw [if_pos h, if_pos (by rw [h])]
    · rw [if_neg h, if_neg fun e => h (hφ n x hn (hS x (by simp)) e)]
theorem renL_lenv (φ : Int → Int) : ∀ l : List Tm, (renL φ l).length = l.length
  | [] => by simp [renL]
  | t :: l => by simp [renL, renL_lenv φ l]
mutual
theorem vcT_ren (φ : Int → Int) : ∀ t : Tm, vcT (renT φ t) = (vcT t).map φ
  | .mk k n s a => by
    have h := vcL_ren φ a
    by_cases k1 : k = 1
    · simp [renT, vcT, k1, h]
    · simp [renT, vcT, k1, h]
theorem vcL_ren (φ : Int → Int) : ∀ l : List Tm, vcL (renL φ l) = (vcL l).map φ
  | [] => by simp [renL, vcL]
  | t :: l => by simp [renL, vcL, vcT_ren φ t, vcL_ren φ l]
end
mutual
theorem mayT_renv (φ : Int → Int) (hφ : ∀ n, 0 ≤ n → 0 ≤ φ n) : ∀ t : Tm, mayT t = true → mayT (renT φ t) = true
  | .mk k n s a, h => by
    simp only [mayT, Bool.and_eq_true] at h
    have ha := mayTL_renv φ hφ a h.2
    simp only [renT, mayT, Bool.and_eq_true, renL_lenv]
    refine ⟨?_, ha⟩
    by_cases k1 : k = 1
    · subst k1
      have := h.1
      simp only [mayB, if_true, Bool.and_eq_true] at this ⊢
      exact ⟨by simpa using hφ n (by simpa using this.1), this.2⟩
    · simp only [if_neg k1]; exact h.1
theorem mayTL_renv (φ : Int → Int) (hφ : ∀ n, 0 ≤ n → 0 ≤ φ n) : ∀ l : List Tm, mayTL l = true → mayTL (renL φ l) = true
  | [], _ => by simp [renL, mayTL]
  | t :: l, h => by
    simp only [mayTL, Bool.and_eq_true] at h
    simp only [renL, mayTL, Bool.and_eq_true]
    exact ⟨mayT_renv φ hφ t h.1, mayTL_renv φ hφ l h.2⟩
end
mutual
theorem flat_occv : ∀ (t : Tm) (L : List Int), (flatT t).foldl takeL L = (vcT t).foldl numL L
  | .mk k n s a, L => by
    simp only [flatT, List.foldl_cons, vcT]
    rw [flat_occLv a]
    unfold takeL
    by_cases k1 : k = 1
    · simp [k1, Tm.k, Tm.n]
    · simp [k1, Tm.k]
theorem flat_occLv : ∀ (l : List Tm) (L : List Int), (flatL l).foldl takeL L = (vcL l).foldl numL L
  | [], L => by simp [flatL, vcL]
  | t :: l, L => by simp only [flatL, vcL, List.foldl_append, flat_occv t, flat_occLv l]
end
theorem varsT_occv (t : Tm) : varsT t = (vcT t).foldl numL [] := by rw [← varsT_flat]; exact flat_occv t []
mutual
theorem renT_compv (f g : Int → Int) : ∀ t : Tm, renT f (renT g t) = renT (fun n => f (g n)) t
  | .mk k n s a => by
    have := renL_compv f g a
    by_cases k1 : k = 1 <;> simp [renT, k1, this]
theorem renL_compv (f g : Int → Int) : ∀ l : List Tm, renL f (renL g l) = renL (fun n => f (g n)) l
  | [] => by simp [renL]
  | t :: l => by simp [renL, renT_compv f g t, renL_compv f g l]
end
mutual
theorem renT_congrv {f g : Int → Int} : ∀ t : Tm, (∀ n ∈ vcT t, f n = g n) → renT f t = renT g t
  | .mk k n s a, h => by
    by_cases k1 : k = 1
    · have h1 := h n (by simp [vcT, k1])
      have := renL_congrv a fun m hm => h m (by simp [vcT, k1, hm])
      simp [renT, k1, this, h1]
    · have := renL_congrv a fun m hm => h m (by simp [vcT, k1, hm])
      simp [renT, k1, this]
theorem renL_congrv {f g : Int → Int} : ∀ l : List Tm, (∀ n ∈ vcL l, f n = g n) → renL f l = renL g l
  | [], _ => by simp [renL]
  | t :: l, h => by
    rw [renL, renL, renT_congrv t fun n hn => h n (by simp [vcL, hn]), renL_congrv l fun n hn => h n (by simp [vcL, hn])]
end
theorem fold_mapv {φ : Int → Int} {V : Int → Prop} (hφ : ∀ x y, V x → V y → φ x = φ y → x = y) : ∀ (D L : List Int), (∀ n ∈ D, V n) → (∀ n ∈ L, V n) → (D.map φ).foldl numL (L.map φ) = (D.foldl numL L).map φ ∧ ∀ n ∈ D.foldl numL L, V n
  | [], L, _, hL => ⟨rfl, hL⟩
  | n :: D, L, hD, hL => by
    have hn := hD n (by simp)
    have e : numL (L.map φ) (φ n) = (numL L n).map φ := by
      unfold numL
      rw [place_mapv hφ L n hL hn]
      split <;> simp
    have hV : ∀ m ∈ numL L n, V m := by
      unfold numL
      intro m hm
      split at hm
      · exact hL m hm
      · rcases List.mem_append.1 hm with h | h
        · exact hL m h
        · rw [List.mem_singleton.1 h]; exact hn
    simp only [List.map_cons, List.foldl_cons, e]
    exact fold_mapv hφ D (numL L n) (fun m hm => hD m (by simp [hm])) hV
theorem numT_renv {φ : Int → Int} (t : Tm) (hinj : ∀ m n, m ∈ vcT t → n ∈ vcT t → φ m = φ n → m = n) : numT (renT φ t) = numT t := by
  have hv := fold_mapv (φ := φ) (V := fun n => n ∈ vcT t) (fun x y a b e => hinj x y a b e) (vcT t) [] (fun n hn => hn) (by simp)
  have e : varsT (renT φ t) = (varsT t).map φ := by rw [varsT_occv, varsT_occv, vcT_ren]; exact hv.1
  unfold numT
  rw [e, renT_compv]
  refine renT_congrv t fun n hn => ?_
  have hp := place_mapv (φ := φ) (V := fun n => n ∈ vcT t) (fun x y a b e => hinj x y a b e) (varsT t) n (by rw [varsT_occv]; exact hv.2) hn
  simp only [numP, hp, List.length_map]


/-- the told variables' cells are apart -/
def FInj (F : List (Int × Int)) (b : Nat) : Prop := (∀ m n a, mget F m = some a → mget F n = some a → m = n) ∧ ∀ m a, mget F m = some a → 0 ≤ a ∧ a < b
theorem FInj.nil (b : Nat) : FInj [] b := ⟨fun m n a h => by simp [mget] at h, fun m a h => by simp [mget] at h⟩
theorem FInj.mono {F : List (Int × Int)} {b c : Nat} (h : FInj F b) (hb : b ≤ c) : FInj F c := ⟨h.1, fun m a e => by have := h.2 m a e; omega⟩
theorem mget_appv (n v : Int) : ∀ (F : List (Int × Int)) (m : Int), mget (F ++ [(n, v)]) m = (mget F m).or (if m = n then some v else none)
  | [], m => by simp [mget]
  | p :: F, m => by
    simp only [List.cons_append, mget]
    split
    · rfl
    · exact mget_appv n v F m
theorem mget_snoc_inv {n v : Int} {F : List (Int × Int)} {m a : Int} (h : mget (F ++ [(n, v)]) m = some a) : mget F m = some a ∨ (m = n ∧ a = v ∧ mget F m = none) := by
  rw [mget_appv] at h
  rcases hx : mget F m with _ | x
  · rw [hx, Option.none_or] at h
    by_cases hm : m = n
    · rw [if_pos hm] at h
      exact .inr ⟨hm, (Option.some.inj h).symm, rfl⟩
    · rw [if_neg hm] at h
      cases h
  · rw [hx, Option.some_or] at h
    exact .inl h
theorem mayv_leaf {k n : Int} {s : ByteArray} {a : List Tm} (h : mayT (.mk k n s a) = true) (k4 : k ≠ 4) : a = [] := by
  simp only [mayT, Bool.and_eq_true] at h
  have h1 := h.1
  unfold mayB at h1
  by_cases k1 : k = 1
  · rw [if_pos k1] at h1
    simp only [Bool.and_eq_true, decide_eq_true_eq] at h1
    exact List.eq_nil_of_length_eq_zero h1.2.2
  · rw [if_neg k1] at h1
    by_cases k2 : k = 2
    · rw [if_pos k2] at h1
      simp only [Bool.and_eq_true, decide_eq_true_eq] at h1
      exact List.eq_nil_of_length_eq_zero h1.2
    · rw [if_neg k2] at h1
      by_cases k3 : k = 3
      · rw [if_pos k3] at h1
        simp only [Bool.and_eq_true, decide_eq_true_eq] at h1
        exact List.eq_nil_of_length_eq_zero h1.2.2
      · rw [if_neg k3, if_neg k4] at h1
        cases h1
theorem FInj.snoc {F : List (Int × Int)} {b : Nat} (h : FInj F b) (n : Int) : FInj (F ++ [(n, (b : Int))]) (b + 1) := by
  refine ⟨fun m k a h1 h2 => ?_, fun m a h1 => ?_⟩
  · rcases mget_snoc_inv h1 with h1 | ⟨rfl, rfl, -⟩
    · rcases mget_snoc_inv h2 with h2 | ⟨e1, e2, -⟩
      · exact h.1 m k a h1 h2
      · have := h.2 _ _ h1; omega
    · rcases mget_snoc_inv h2 with h2 | ⟨e1, -, -⟩
      · have := h.2 _ _ h2; omega
      · exact e1.symm
  · rcases mget_snoc_inv h1 with h1 | ⟨-, rfl, -⟩
    · have := h.2 _ _ h1; omega
    · omega
mutual
theorem put_inj {T0 : Int} : ∀ (t : Tm) (b : Nat) (F : List (Int × Int)), FInj F b → FInj (putT (fun n => mget [] n) T0 b F t).2.2 (b + (putT (fun n => mget [] n) T0 b F t).2.1.length) ∧ ∀ n ∈ vcT t, mayT t = true → ∃ v, mget (putT (fun n => mget [] n) T0 b F t).2.2 n = some v
  | .mk k n s a, b, F, h => by
    by_cases k1 : k = 1
    · rw [putT_var (t := .mk k n s a) k1]
      simp only [Tm.n]
      subst k1
      have hv : ∀ m ∈ vcT (.mk 1 n s a), mayT (.mk 1 n s a) = true → m = n := fun m hm hmay => by
        rw [mayv_leaf hmay (by decide)] at hm
        simpa [vcT, vcL] using hm
      cases h2 : mget F n with
      | some x => exact ⟨by simpa [mget, h2] using h, fun m hm hmay => by rw [hv m hm hmay]; exact ⟨x, by simpa [mget] using h2⟩⟩
      | none => exact ⟨by simpa [mget] using h.snoc n, fun m hm hmay => by rw [hv m hm hmay]; exact ⟨b, by simpa [mget] using mget_last h2⟩⟩
    · by_cases k4 : k = 4
      · rw [putT_comp (t := .mk k n s a) k4]
        have ih := put_injL (T0 := T0) a (b + 1) F (h.mono (Nat.le_succ b))
        refine ⟨?_, fun m hm hmay => ?_⟩
        · have := ih.1
          simp only [Tm.args, List.length_cons]
          rw [show b + ((putL (fun n => mget [] n) T0 (b + 1) F a).2.1.length + 1) = b + 1 + (putL (fun n => mget [] n) T0 (b + 1) F a).2.1.length by omega]
          exact this
        · simp only [mayT, Bool.and_eq_true] at hmay
          simp only [vcT, if_neg k1] at hm
          exact ih.2 m hm hmay.2
      · rw [putT_leaf (t := .mk k n s a) k1 k4]
        refine ⟨h.mono (by omega), fun m hm hmay => ?_⟩
        rw [mayv_leaf hmay k4] at hm
        simp [vcT, vcL, k1] at hm
theorem put_injL {T0 : Int} : ∀ (l : List Tm) (b : Nat) (F : List (Int × Int)), FInj F b → FInj (putL (fun n => mget [] n) T0 b F l).2.2 (b + (putL (fun n => mget [] n) T0 b F l).2.1.length) ∧ ∀ n ∈ vcL l, mayTL l = true → ∃ v, mget (putL (fun n => mget [] n) T0 b F l).2.2 n = some v
  | [], b, F, h => by
    simp only [putL]
    exact ⟨by simpa using h, fun n hn => by simp [vcL] at hn⟩
  | t :: l, b, F, h => by
    have i1 := put_inj (T0 := T0) t b F h
    have i2 := put_injL (T0 := T0) l _ _ i1.1
    simp only [putL]
    refine ⟨?_, fun n hn hmay => ?_⟩
    · rw [List.length_append, ← Nat.add_assoc]
      exact i2.1
    · simp only [mayTL, Bool.and_eq_true] at hmay
      simp only [vcL, List.mem_append] at hn
      rcases hn with hn | hn
      · obtain ⟨v, hv⟩ := i1.2 n hn hmay.1
        exact ⟨v, put_extL l _ _ n v hv⟩
      · exact i2.2 n hn hmay.2
end
mutual
theorem sub_ren {φ : Int → Int} : ∀ t : Tm, mayT t = true → subT (fun n => .mk 1 (φ n) ⟨#[]⟩ []) t = renT φ t
  | .mk k n s a, h => by
    by_cases k1 : k = 1
    · subst k1
      have ha := mayv_leaf h (by decide)
      subst ha
      simp only [mayT, Bool.and_eq_true, mayB, if_true] at h
      have hs : s = ⟨#[]⟩ := by
        have := h.1.2.1
        cases s with
        | mk d => 
          simp only [List.isEmpty_iff] at this
          rw [ByteArray.toList_eq] at this
          congr 1
          exact Array.toList_inj.1 this
      simp [subT, renT, renL, hs]
    · simp only [mayT, Bool.and_eq_true] at h
      simp only [subT, renT, if_neg k1, sub_renL a h.2]
theorem sub_renL {φ : Int → Int} : ∀ l : List Tm, mayTL l = true → subL (fun n => .mk 1 (φ n) ⟨#[]⟩ []) l = renL φ l
  | [], _ => by simp [subL, renL]
  | t :: l, h => by
    simp only [mayTL, Bool.and_eq_true] at h
    simp only [subL, renL, sub_ren t h.1, sub_renL l h.2]
end
/-- what was put, got, numbered: it is the same -/
theorem num_back (S : Sto) {t : Tm} (h : mayT t = true) : numT (backT S t) = numT t := by
  unfold backT
  rw [sub_ren (φ := fun n => (mget (putR S [] t).2.2 n).getD 0) t h]
  have hp := put_inj (T0 := lastTop S.cells) t S.cells.length [] (FInj.nil _)
  refine numT_renv t fun m n hm hn e => ?_
  obtain ⟨a, ha⟩ := hp.2 m hm h
  obtain ⟨b, hb⟩ := hp.2 n hn h
  have e1 : mget (putR S [] t).2.2 m = some a := ha
  have e2 : mget (putR S [] t).2.2 n = some b := hb
  simp only [e1, e2, Option.getD_some] at e
  subst e
  exact hp.1.1 m n a ha hb
theorem num_may {t : Tm} (h : mayT t = true) : mayT (numT t) = true := mayT_renv _ (fun n hn => by omega) t h
end Go.Proofs.Ytoklbeogmcdgaaa.Tms
