
/-
  Terms that are put one behind the other with one map of variables: its entries in whatever order; what is got is small.
-/
import Derived.Test.YtoklbeogmcdgaaaSlb
import Derived.Test.YtoklbeogmcdgaaaGte
namespace Go.Proofs.Ytoklbeogmcdgaaa.Tms
open Go Go.RowKit Go.Proofs.Ytoklbeogmcdgaaa.Reg Go.Proofs.Ytoklbeogmcdgaaa.Rws Go.Proofs.Ytoklbeogmcdgaaa.Maps
set_option linter.unusedVariables false
set_option linter.unusedSimpArgs false

theorem mget_perm {l l' : List (Int × Int)} (h : l.Perm l') : (l.map (·.1)).Nodup → ∀ n, mget l n = mget l' n := by
  induction h with
  | nil => intro _ n; rfl
  | cons x _ ih =>
    intro hn n
    simp only [List.map_cons, List.nodup_cons] at hn
    simp only [mget]
    rw [ih hn.2 n]
  | swap x y l =>
    intro hn n
    simp only [List.map_cons, List.nodup_cons, List.mem_cons, not_or] at hn
    simp only [mget]
    by_cases h1 : n = y.1
    · rw [if_pos h1, if_neg fun e => hn.1.1 (h1.symm.trans e), if_pos h1]
    · rw [if_neg h1, if_neg h1]
  | trans h1 _ ih1 ih2 =>
    intro hn n
    rw [ih1 hn n, ih2 ((h1.map _).nodup_iff.1 hn) n]
mutual
/-- a new variable is told nowhere, and told once -/
theorem put_keys {told : Int → Option Int} {T0 : Int} : ∀ (t : Tm) (b : Nat) (F : List (Int × Int)), (F.map (·.1)).Nodup → (∀ p ∈ F, told p.1 = none) → ((putT told T0 b F t).2.2.map (·.1)).Nodup ∧ ∀ p ∈ (putT told T0 b F t).2.2, told p.1 = none
  | .mk k n s a, b, F, hn, hF => by
    by_cases k1 : k = 1
    · rw [putT_var (t := .mk k n s a) k1]
      simp only [Tm.n]
      cases h1 : told n with
      | some x => exact ⟨hn, hF⟩
      | none =>
        cases h2 : mget F n with
        | some x => exact ⟨hn, hF⟩
        | none =>
          refine ⟨?_, fun p hp => ?_⟩
          · simp only [List.map_append, List.map_cons, List.map_nil]
            rw [List.nodup_append]
            refine ⟨hn, by simp, fun x hx y hy e => ?_⟩
            simp only [List.mem_singleton] at hy
            obtain ⟨p, hp, e2⟩ := List.mem_map.1 hx
            exact mget_no h2 p hp (by rw [e2, e, hy])
          · rcases List.mem_append.1 hp with hp | hp
            · exact hF p hp
            · simp only [List.mem_singleton] at hp
              rw [hp]
              exact h1
    · by_cases k4 : k = 4
      · rw [putT_comp (t := .mk k n s a) k4]
        exact put_keysL a (b + 1) F hn hF
      · rw [putT_leaf (t := .mk k n s a) k1 k4]
        exact ⟨hn, hF⟩
theorem put_keysL {told : Int → Option Int} {T0 : Int} : ∀ (l : List Tm) (b : Nat) (F : List (Int × Int)), (F.map (·.1)).Nodup → (∀ p ∈ F, told p.1 = none) → ((putL told T0 b F l).2.2.map (·.1)).Nodup ∧ ∀ p ∈ (putL told T0 b F l).2.2, told p.1 = none
  | [], b, F, hn, hF => by simp only [putL]; exact ⟨hn, hF⟩
  | t :: l, b, F, hn, hF => by
    obtain ⟨h1, h2⟩ := put_keys (told := told) (T0 := T0) t b F hn hF
    simp only [putL]
    exact put_keysL l _ _ h1 h2
theorem mget_no {F : List (Int × Int)} {n : Int} (h : mget F n = none) : ∀ p ∈ F, p.1 ≠ n := by
  induction F with
  | nil => intro p hp; cases hp
  | cons q F ih =>
    intro p hp
    simp only [mget] at h
    split at h
    · cases h
    · rename_i hne
      rcases List.mem_cons.1 hp with rfl | hp
      · exact fun e => hne e.symm
      · exact ih h p hp
end
mutual
theorem cnt_all {told : Int → Option Int} {N : Nat} (h : ∀ n a, told n = some a → 0 ≤ a ∧ a < N) : ∀ (t : Tm) (c : Nat) (F : List (Int × Int)), (cntT told N c F t).1 = true
  | .mk k n s a, c, F => by
    by_cases k1 : k = 1
    · rw [cntT_var (t := .mk k n s a) k1]
      simp only [Tm.n]
      cases h1 : told n with
      | some x => have := h n x h1; simp; omega
      | none => cases mget F n <;> rfl
    · rw [cntT_not (t := .mk k n s a) k1]
      exact cnt_allL h a _ _
theorem cnt_allL {told : Int → Option Int} {N : Nat} (h : ∀ n a, told n = some a → 0 ≤ a ∧ a < N) : ∀ (l : List Tm) (c : Nat) (F : List (Int × Int)), (cntL told N c F l).1 = true
  | [], c, F => by rw [cntL_nil]
  | t :: l, c, F => by rw [cntL_pos (cnt_all h t c F)]; exact cnt_allL h l _ _
end
theorem mget_congr {M M' : List (Int × Int)} (h : ∀ n, mget M n = mget M' n) : (fun n => mget M n) = fun n => mget M' n := funext h
/-- what Put does depends on what is told alone -/
theorem put_congr {S : Sto} {M M' : List (Int × Int)} (h : ∀ n, mget M n = mget M' n) (t : Tm) : putA S M t = putA S M' t ∧ putW S M t = putW S M' t ∧ putN S M t = putN S M' t := by
  have e := mget_congr h
  have e1 : putR S M t = putR S M' t := by unfold putR; rw [e]
  have e2 : cntM S M t = cntM S M' t := by unfold cntM; rw [e]
  have e3 : putS S M t = putS S M' t := by unfold putS; rw [e1]
  unfold putA putW putN
  rw [e1, e2, e3]
  exact ⟨rfl, rfl, rfl⟩
/-- the told variables are cells that are there, each told once -/
structure MOk (S : Sto) (M : List (Int × Int)) : Prop where
  inn : ∀ p ∈ M, 0 ≤ p.2 ∧ p.2 < S.cells.length
  nd : (M.map (·.1)).Nodup
theorem MOk.nil (S : Sto) : MOk S [] := ⟨fun p hp => (by cases hp), by simp⟩
theorem MOk.may {S : Sto} {M : List (Int × Int)} (h : MOk S M) {t : Tm} (hc : checkT t = 0) (hf : (S.cells.length : Int) + t.size ≤ S.room) : MayPut S M t :=
  ⟨hc, cnt_all (fun n a ha => h.inn _ (mget_some ha)) t 0 [], by have := cntT_le (fun n => mget M n) S.cells.length t 0 []; omega⟩
theorem MayPut.eq {S : Sto} {M : List (Int × Int)} {t : Tm} (h : MayPut S M t) : putW S M t = putS S M t ∧ putA S M t = ((putR S M t).1, 0) ∧ putN S M t = (putR S M t).2.2 := by
  have h1 : cntM S M t = cntT (fun n => mget M n) S.cells.length 0 [] t := rfl
  have h2 := h.cnt
  have h3 := h.fit
  unfold putW putA putN
  simp only [h1, h.chk, h2, ne_eq, not_true_eq_false, if_false, Bool.true_eq_false]
  rw [if_neg (by omega), if_neg (by omega), if_neg (by omega)]
  exact ⟨rfl, rfl, rfl⟩
theorem MOk.put {S : Sto} {M : List (Int × Int)} (h : MOk S M) (hI : Inv S) {t : Tm} (hm : MayPut S M t) : MOk (putS S M t) (M ++ putN S M t) := by
  rw [hm.eq.2.2]
  have hok := hm.ok.2.2
  have hk := put_keys (told := fun n => mget M n) (T0 := lastTop S.cells) t S.cells.length [] (by simp) (fun p hp => by cases hp)
  refine ⟨fun p hp => ?_, ?_⟩
  · rw [putS_len]
    rcases List.mem_append.1 hp with hp | hp
    · have := h.inn p hp; omega
    · exact hok p hp
  · rw [List.map_append, List.nodup_append]
    refine ⟨h.nd, hk.1, fun x hx y hy e => ?_⟩
    obtain ⟨p, hp, rfl⟩ := List.mem_map.1 hx
    obtain ⟨q, hq, rfl⟩ := List.mem_map.1 hy
    exact mget_no (hk.2 q hq) p hp e
theorem MOk.same {S S' : Sto} {M : List (Int × Int)} (h : MOk S M) (e : S'.cells.length = S.cells.length) : MOk S' M := ⟨fun p hp => by rw [e]; exact h.inn p hp, h.nd⟩
/-- a map of the law's own, beside its store: it tells these, in whatever order -/
structure VarsAt (w0 : World) (D : Nat → Prop) (mb : Nat) (M : List (Int × Int)) (w : World) : Prop where
  map : ∃ L, IMapB w mb L ∧ L.Perm M
  free : ¬ D mb
  base : w0.heap.size ≤ mb
theorem VarsAt.lt {w0 w : World} {D : Nat → Prop} {mb : Nat} {M : List (Int × Int)} (h : VarsAt w0 D mb M w) : mb < w.heap.size := let ⟨L, h, _⟩ := h.map; h.lt
theorem VarsAt.step {w0 w w' : World} {D D' : Nat → Prop} {mb : Nat} {M : List (Int × Int)} (h : VarsAt w0 D mb M w) (hs : Step D w D' w') : VarsAt w0 D' mb M w' := by
  obtain ⟨L, h1, h2⟩ := h.map
  exact ⟨⟨L, h1.below (hs.blk mb ⟨h.free, h.lt⟩).2, h2⟩, (hs.blk mb ⟨h.free, h.lt⟩).1.1, h.base⟩
theorem VarsAt.below {w0 w w' : World} {D : Nat → Prop} {mb : Nat} {M : List (Int × Int)} (h : VarsAt w0 D mb M w) (hb : Below w.heap.size w w') : VarsAt w0 D mb M w' := by
  obtain ⟨L, h1, h2⟩ := h.map
  exact ⟨⟨L, h1.below (hb.block mb h.lt), h2⟩, h.free, h.base⟩
section
variable {w0 w : World} {p mb : Nat} {S : Sto} {D : Nat → Prop} {M : List (Int × Int)}
/-- Put, whatever it answers, with such a map -/
theorem law_PutM (h : Law8 w0 p S D w) (hI : Inv S) (hv : VarsAt w0 D mb M w) (hM : (M.map (·.1)).Nodup) {t : Tm} {v : Value} {P : Nat → Prop} (ht : IsTm w P v t) (hP : ∀ b, P b → ¬ D b) (hs : t.size ≤ 20000) :
    Calls Try.prog 17 #[.pointer (some ⟨p, 0, none⟩), v, .map (some mb)] w fun e w' => e = .returned (.tuple #[.int .i64 (putA S M t).1, .int .i64 (putA S M t).2]) ∧ ∃ D', Law8 w0 p (putW S M t) D' w' ∧ VarsAt w0 D' mb (M ++ putN S M t) w' ∧ w.heap.size ≤ w'.heap.size ∧ ∀ b, Free D w b → b ≠ mb → Free D' w' b ∧ w'.heap[b]? = w.heap[b]? := by
  obtain ⟨L, h1, h2⟩ := hv.map
  obtain ⟨e1, e2, e3⟩ := put_congr (S := S) (fun n => (mget_perm h2.symm hM n).symm) t
  refine (law_PutV h hI h1 hv.free hv.base ht hP hs).mono ?_
  rintro e w' ⟨rfl, D', F, hput⟩
  rw [e1]
  have hl := hput.law
  rw [e2] at hl
  refine ⟨rfl, D', hl, ⟨⟨L ++ F, hput.map, h2.append ?_⟩, hput.free, hv.base⟩, hput.size, hput.blk⟩
  have := hput.perm
  rw [e3] at this
  exact this.symm
end
/-! ### What is got is small -/
theorem gfold_size {g : Nat → Nat → Tm × Int × Nat} (hg : ∀ x n, (g x n).2.1 = 0 → n + (g x n).1.size ≤ (g x n).2.2) : ∀ (l : List Int) (st : List Tm × Int × Nat) (c : Nat), c + sizeL st.1 ≤ st.2.2 → (l.foldl (gStep g) st).2.1 = 0 → c + sizeL (l.foldl (gStep g) st).1 ≤ (l.foldl (gStep g) st).2.2
  | [], st, c, hs, _ => hs
  | a :: l, st, c, hs, h => by
    rw [List.foldl_cons] at h ⊢
    by_cases h1 : st.2.1 = 0
    · by_cases h2 : (g a.toNat st.2.2).2.1 = 0
      · have h3 := hg _ _ h2
        rw [gStep_ok h1 h2] at h ⊢
        refine gfold_size hg l _ c ?_ h
        dsimp only
        rw [sizeL_app]
        simp only [sizeL]
        omega
      · rw [gStep_bad h1 h2, gfold_stop _ _ _ h2] at h
        exact absurd h h2
    · have e : gStep g st a = st := if_pos h1
      rw [e, gfold_stop _ _ _ h1] at h
      exact absurd h h1
theorem withArgs_size (t : Tm) (l : List Tm) : (withArgs t l).size = 1 + sizeL l := by unfold withArgs; simp only [Tm.size]; omega
theorem getG_size (S : Sto) : ∀ (f x n : Nat), (getG S f x n).2.1 = 0 → n + (getG S f x n).1.size ≤ (getG S f x n).2.2
  | 0, x, n, h => by simp [getG] at h
  | f + 1, x, n, h => by
    rw [getG_succ] at h ⊢
    by_cases h1 : 20000 < n + 1
    · rw [if_pos h1] at h; simp at h
    · rw [if_neg h1] at h ⊢
      by_cases h2 : ((cellF S x).args.foldl (gStep (getG S f)) ([], 0, n + 1)).2.1 ≠ 0
      · rw [if_pos h2] at h; exact absurd h h2
      · rw [if_neg h2] at h ⊢
        have := gfold_size (getG_size S f) (cellF S x).args ([], 0, n + 1) (n + 1) (by simp [sizeL]) (by simpa using h2)
        dsimp only
        rw [withArgs_size]
        omega
theorem getT_size (S : Sto) (x : Nat) : (getT S x).size ≤ 20000 := by
  unfold getT
  split
  · rename_i h
    have h1 := getG_size S 2000 x 0 h
    have h2 := getG_bound S 2000 x 0 (by omega) h
    omega
  · simp [zeroTm, Tm.size, sizeL]
end Go.Proofs.Ytoklbeogmcdgaaa.Tms
