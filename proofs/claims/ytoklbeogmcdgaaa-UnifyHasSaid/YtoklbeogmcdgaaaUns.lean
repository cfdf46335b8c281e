
/-
  Terms that are put one behind the other with one map of variables: its entries in whatever order; what is got is small.
  Layer 9's laws, plain: terms that are put; unified one way or the other; what is got then.
-/
import Derived.Test.YtoklbeogmcdgaaaPlx
import Derived.Test.YtoklbeogmcdgaaaGte
import Derived.Test.YtoklbeogmcdgaaaUnd
namespace Go.Proofs.Ytoklbeogmcdgaaa.Tms
open Go Go.RowKit Go.Proofs.Ytoklbeogmcdgaaa.Reg Go.Proofs.Ytoklbeogmcdgaaa.Rws Go.Proofs.Ytoklbeogmcdgaaa.Maps
set_option linter.unusedVariables false
set_option linter.unusedSimpArgs false

theorem mget_perm {l l' : List (Int × Int)} (h : l.Perm l') : (l.map (·.1)).Nodup → ∀ n, mget l n = mget l' n := by
  induction h with
  | nil => intro _ n; rfl
  | cons x _ ih =>
    intro hn n
    simp only [List.map_cons, List.nodup_cons] at hn
    simp only [mget]
    rw [ih hn.2 n]
  | swap x y l =>
    intro hn n
    simp only [List.map_cons, List.nodup_cons, List.mem_cons, not_or] at hn
    simp only [mget]
    by_cases h1 : n = y.1
    · rw [if_pos h1, if_neg fun e => hn.1.1 (h1.symm.trans e), if_pos h1]
    · rw [if_neg h1, if_neg h1]
  | trans h1 _ ih1 ih2 =>
    intro hn n
    rw [ih1 hn n, ih2 ((h1.map _).nodup_iff.1 hn) n]
mutual
/-- a new variable is told nowhere, and told once -/
theorem put_keys {told : Int → Option Int} {T0 : Int} : ∀ (t : Tm) (b : Nat) (F : List (Int × Int)), (F.map (·.1)).Nodup → (∀ p ∈ F, told p.1 = none) → ((putT told T0 b F t).2.2.map (·.1)).Nodup ∧ ∀ p ∈ (putT told T0 b F t).2.2, told p.1 = none
  | .mk k n s a, b, F, hn, hF => by
    by_cases k1 : k = 1
    · rw [putT_var (t := .mk k n s a) k1]
      simp only [Tm.n]
      cases h1 : told n with
      | some x => exact ⟨hn, hF⟩
      | none =>
        cases h2 : mget F n with
        | some x => exact ⟨hn, hF⟩
        | none =>
          refine ⟨?_, fun p hp => ?_⟩
          · simp only [List.map_append, List.map_cons, List.map_nil]
            rw [List.nodup_append]
            refine ⟨hn, by simp, fun x hx y hy e => ?_⟩
            simp only [List.mem_singleton] at hy
            obtain ⟨p, hp, e2⟩ := List.mem_map.1 hx
            exact mget_no h2 p hp (by rw [e2, e, hy])
          · rcases List.mem_append.1 hp with hp | hp
            · exact hF p hp
            · simp only [List.mem_singleton] at hp
              rw [hp]
              exact h1
    · by_cases k4 : k = 4
      · rw [putT_comp (t := .mk k n s a) k4]
        exact put_keysL a (b + 1) F hn hF
      · rw [putT_leaf (t := .mk k n s a) k1 k4]
        exact ⟨hn, hF⟩
theorem put_keysL {told : Int → Option Int} {T0 : Int} : ∀ (l : List Tm) (b : Nat) (F : List (Int × Int)), (F.map (·.1)).Nodup → (∀ p ∈ F, told p.1 = none) → ((putL told T0 b F l).2.2.map (·.1)).Nodup ∧ ∀ p ∈ (putL told T0 b F l).2.2, told p.1 = none
  | [], b, F, hn, hF => by simp only [putL]; exact ⟨hn, hF⟩
  | t :: l, b, F, hn, hF => by
    obtain ⟨h1, h2⟩ := put_keys (told := told) (T0 := T0) t b F hn hF
    simp only [putL]
    exact put_keysL l _ _ h1 h2
theorem mget_no {F : List (Int × Int)} {n : Int} (h : mget F n = none) : ∀ p ∈ F, p.1 ≠ n := by
  induction F with
  | nil => intro p hp; cases hp
  | cons q F ih =>
    intro p hp
    simp only [mget] at h
    split at h
    · cases h
    · rename_i hne
      rcases List.mem_cons.1 hp with rfl | hp
      · exact fun e => hne e.symm
      · exact ih h p hp
end
mutual
theorem cnt_all {told : Int → Option Int} {N : Nat} (h : ∀ n a, told n = some a → 0 ≤ a ∧ a < N) : ∀ (t : Tm) (c : Nat) (F : List (Int × Int)), (cntT told N c F t).1 = true
  | .mk k n s a, c, F => by
    by_cases k1 : k = 1
    · rw [cntT_var (t := .mk k n s a) k1]
      simp only [Tm.n]
      cases h1 : told n with
      | some x => have := h n x h1; simp; omega
      | none => cases mget F n <;> rfl
    · rw [cntT_not (t := .mk k n s a) k1]
      exact cnt_allL h a _ _
theorem cnt_allL {told : Int → Option Int} {N : Nat} (h : ∀ n a, told n = some a → 0 ≤ a ∧ a < N) : ∀ (l : List Tm) (c : Nat) (F : List (Int × Int)), (cntL told N c F l).1 = true
  | [], c, F => by rw [cntL_nil]
  | t :: l, c, F => by rw [cntL_pos (cnt_all h t c F)]; exact cnt_allL h l _ _
end
theorem mget_congr {M M' : List (Int × Int)} (h : ∀ n, mget M n = mget M' n) : (fun n => mget M n) = fun n => mget M' n := funext h
/-- what Put does depends on what is told alone -/
theorem put_congr {S : Sto} {M M' : List (Int × Int)} (h : ∀ n, mget M n = mget M' n) (t : Tm) : putA S M t = putA S M' t ∧ putW S M t = putW S M' t ∧ putN S M t = putN S M' t := by
  have e := mget_congr h
  have e1 : putR S M t = putR S M' t := by unfold putR; rw [e]
  have e2 : cntM S M t = cntM S M' t := by unfold cntM; rw [e]
  have e3 : putS S M t = putS S M' t := by unfold putS; rw [e1]
  unfold putA putW putN
  rw [e1, e2, e3]
  exact ⟨rfl, rfl, rfl⟩
/-- the told variables are cells that are there, each told once -/
structure MOk (S : Sto) (M : List (Int × Int)) : Prop where
  inn : ∀ p ∈ M, 0 ≤ p.2 ∧ p.2 < S.cells.length
  nd : (M.map (·.1)).Nodup
theorem MOk.nil (S : Sto) : MOk S [] := ⟨fun p hp => (by cases hp), by simp⟩
theorem MOk.may {S : Sto} {M : List (Int × Int)} (h : MOk S M) {t : Tm} (hc : checkT t = 0) (hf : (S.cells.length : Int) + t.size ≤ S.room) : MayPut S M t :=
  ⟨hc, cnt_all (fun n a ha => h.inn _ (mget_some ha)) t 0 [], by have := cntT_le (fun n => mget M n) S.cells.length t 0 []; omega⟩
theorem MayPut.eq {S : Sto} {M : List (Int × Int)} {t : Tm} (h : MayPut S M t) : putW S M t = putS S M t ∧ putA S M t = ((putR S M t).1, 0) ∧ putN S M t = (putR S M t).2.2 := by
  have h1 : cntM S M t = cntT (fun n => mget M n) S.cells.length 0 [] t := rfl
  have h2 := h.cnt
  have h3 := h.fit
  unfold putW putA putN
  simp only [h1, h.chk, h2, ne_eq, not_true_eq_false, if_false, Bool.true_eq_false]
  rw [if_neg (by omega), if_neg (by omega), if_neg (by omega)]
  exact ⟨rfl, rfl, rfl⟩
theorem MOk.put {S : Sto} {M : List (Int × Int)} (h : MOk S M) (hI : Inv S) {t : Tm} (hm : MayPut S M t) : MOk (putS S M t) (M ++ putN S M t) := by
  rw [hm.eq.2.2]
  have hok := hm.ok.2.2
  have hk := put_keys (told := fun n => mget M n) (T0 := lastTop S.cells) t S.cells.length [] (by simp) (fun p hp => by cases hp)
  refine ⟨fun p hp => ?_, ?_⟩
  · rw [putS_len]
    rcases List.mem_append.1 hp with hp | hp
    · have := h.inn p hp; omega
    · exact hok p hp
  · rw [List.map_append, List.nodup_append]
    refine ⟨h.nd, hk.1, fun x hx y hy e => ?_⟩
    obtain ⟨p, hp, rfl⟩ := List.mem_map.1 hx
    obtain ⟨q, hq, rfl⟩ := List.mem_map.1 hy
    exact mget_no (hk.2 q hq) p hp e
theorem MOk.same {S S' : Sto} {M : List (Int × Int)} (h : MOk S M) (e : S'.cells.length = S.cells.length) : MOk S' M := ⟨fun p hp => by rw [e]; exact h.inn p hp, h.nd⟩
/-- a map of the law's own, beside its store: it tells these, in whatever order -/
structure VarsAt (w0 : World) (D : Nat → Prop) (mb : Nat) (M : List (Int × Int)) (w : World) : Prop where
  map : ∃ L, IMapB w mb L ∧ L.Perm M
  free : ¬ D mb
  base : w0.heap.size ≤ mb
theorem VarsAt.lt {w0 w : World} {D : Nat → Prop} {mb : Nat} {M : List (Int × Int)} (h : VarsAt w0 D mb M w) : mb < w.heap.size := let ⟨L, h, _⟩ := h.map; h.lt
theorem VarsAt.step {w0 w w' : World} {D D' : Nat → Prop} {mb : Nat} {M : List (Int × Int)} (h : VarsAt w0 D mb M w) (hs : Step D w D' w') : VarsAt w0 D' mb M w' := by
  obtain ⟨L, h1, h2⟩ := h.map
  exact ⟨⟨L, h1.below (hs.blk mb ⟨h.free, h.lt⟩).2, h2⟩, (hs.blk mb ⟨h.free, h.lt⟩).1.1, h.base⟩
theorem VarsAt.below {w0 w w' : World} {D : Nat → Prop} {mb : Nat} {M : List (Int × Int)} (h : VarsAt w0 D mb M w) (hb : Below w.heap.size w w') : VarsAt w0 D mb M w' := by
  obtain ⟨L, h1, h2⟩ := h.map
  exact ⟨⟨L, h1.below (hb.block mb h.lt), h2⟩, h.free, h.base⟩
section
variable {w0 w : World} {p mb : Nat} {S : Sto} {D : Nat → Prop} {M : List (Int × Int)}
/-- Put, whatever it answers, with such a map -/
theorem law_PutM (h : Law8 w0 p S D w) (hI : Inv S) (hv : VarsAt w0 D mb M w) (hM : (M.map (·.1)).Nodup) {t : Tm} {v : Value} {P : Nat → Prop} (ht : IsTm w P v t) (hP : ∀ b, P b → ¬ D b) (hs : t.size ≤ 20000) :
    Calls Try.prog 17 #[.pointer (some ⟨p, 0, none⟩), v, .map (some mb)] w fun e w' => e = .returned (.tuple #[.int .i64 (putA S M t).1, .int .i64 (putA S M t).2]) ∧ ∃ D', Law8 w0 p (putW S M t) D' w' ∧ VarsAt w0 D' mb (M ++ putN S M t) w' ∧ w.heap.size ≤ w'.heap.size ∧ ∀ b, Free D w b → b ≠ mb → Free D' w' b ∧ w'.heap[b]? = w.heap[b]? := by
  obtain ⟨L, h1, h2⟩ := hv.map
  obtain ⟨e1, e2, e3⟩ := put_congr (S := S) (fun n => (mget_perm h2.symm hM n).symm) t
  refine (law_PutV h hI h1 hv.free hv.base ht hP hs).mono ?_
  rintro e w' ⟨rfl, D', F, hput⟩
  rw [e1]
  have hl := hput.law
  rw [e2] at hl
  refine ⟨rfl, D', hl, ⟨⟨L ++ F, hput.map, h2.append ?_⟩, hput.free, hv.base⟩, hput.size, hput.blk⟩
  have := hput.perm
  rw [e3] at this
  exact this.symm
end
/-! ### What is got is small -/
theorem gfold_size {g : Nat → Nat → Tm × Int × Nat} (hg : ∀ x n, (g x n).2.1 = 0 → n + (g x n).1.size ≤ (g x n).2.2) : ∀ (l : List Int) (st : List Tm × Int × Nat) (c : Nat), c + sizeL st.1 ≤ st.2.2 → (l.foldl (gStep g) st).2.1 = 0 → c + sizeL (l.foldl (gStep g) st).1 ≤ (l.foldl (gStep g) st).2.2
  | [], st, c, hs, _ => hs
  | a :: l, st, c, hs, h => by
    rw [List.foldl_cons] at h ⊢
    by_cases h1 : st.2.1 = 0
    · by_cases h2 : (g a.toNat st.2.2).2.1 = 0
      · have h3 := hg _ _ h2
        rw [gStep_ok h1 h2] at h ⊢
        refine gfold_size hg l _ c ?_ h
        dsimp only
        rw [sizeL_app]
        simp only [sizeL]
        omega
      · rw [gStep_bad h1 h2, gfold_stop _ _ _ h2] at h
        exact absurd h h2
    · have e : gStep g st a = st := if_pos h1
      rw [e, gfold_stop _ _ _ h1] at h
      exact absurd h h1
theorem withArgs_size (t : Tm) (l : List Tm) : (withArgs t l).size = 1 + sizeL l := by unfold withArgs; simp only [Tm.size]; omega
theorem getG_size (S : Sto) : ∀ (f x n : Nat), (getG S f x n).2.1 = 0 → n + (getG S f x n).1.size ≤ (getG S f x n).2.2
  | 0, x, n, h => by simp [getG] at h
  | f + 1, x, n, h => by
    rw [getG_succ] at h ⊢
    by_cases h1 : 20000 < n + 1
    · rw [if_pos h1] at h; simp at h
    · rw [if_neg h1] at h ⊢
      by_cases h2 : ((cellF S x).args.foldl (gStep (getG S f)) ([], 0, n + 1)).2.1 ≠ 0
      · rw [if_pos h2] at h; exact absurd h h2
      · rw [if_neg h2] at h ⊢
        have := gfold_size (getG_size S f) (cellF S x).args ([], 0, n + 1) (n + 1) (by simp [sizeL]) (by simpa using h2)
        dsimp only
        rw [withArgs_size]
        omega
theorem getT_size (S : Sto) (x : Nat) : (getT S x).size ≤ 20000 := by
  unfold getT
  split
  · rename_i h
    have h1 := getG_size S 2000 x 0 h
    have h2 := getG_bound S 2000 x 0 (by omega) h
    omega
  · simp [zeroTm, Tm.size, sizeL]
end Go.Proofs.Ytoklbeogmcdgaaa.Tms
namespace Go.Proofs.Ytoklbeogmcdgaaa.Tms
open Go Go.RowKit Go.Proofs.Ytoklbeogmcdgaaa.Reg Go.Proofs.Ytoklbeogmcdgaaa.Rws Go.Proofs.Ytoklbeogmcdgaaa.Maps
set_option linter.unusedVariables false
set_option linter.unusedSimpArgs false

/-- a term is put -/
structure PutIs (S : Sto) (M : List (Int × Int)) (t : Tm) (x : Nat) (e : Int) (S' : Sto) (M' : List (Int × Int)) : Prop where
  a : putA S M t = ((x : Int), e)
  w : putW S M t = S'
  n : M ++ putN S M t = M'
  inv : Inv S'
  mok : MOk S' M'
  lt : x < S'.cells.length
  le : S.cells.length ≤ S'.cells.length ∧ S'.cells.length ≤ S.cells.length + t.size
  bonds : S'.bonds = S.bonds
  room : S'.room = S.room
theorem put_is {S : Sto} {M : List (Int × Int)} (hI : Inv S) (hM : MOk S M) {t : Tm} (hc : checkT t = 0) (hf : (S.cells.length : Int) + t.size ≤ S.room) : ∃ x S' M', PutIs S M t x 0 S' M' := by
  have hm := hM.may hc hf
  obtain ⟨e1, e2, e3⟩ := hm.eq
  have hok := hm.ok.1
  have hl := putS_len S M t
  have hlen := putT_len (fun n => mget M n) (lastTop S.cells) t S.cells.length []
  refine ⟨(putR S M t).1.toNat, putS S M t, M ++ putN S M t, ?_, e1, rfl, hI.put hm, hM.put hI hm, by omega, ⟨by omega, ?_⟩, rfl, rfl⟩
  · rw [e2, Int.toNat_of_nonneg hok.1]
  · have : (putR S M t).2.1.length ≤ t.size := hlen
    omega
/-- a new store: all that was there is beside it -/
theorem law_NewF (w0 w : World) (hb : Below w0.heap.size w0 w) (n : Int) (h1 : 1 ≤ n) (h2 : n ≤ 16777216) :
    Calls Try.prog 16 #[.int .i64 n] w fun e w' => e = .returned (.tuple #[.pointer (some ⟨w.heap.size, 0, none⟩), .int .i64 0]) ∧ ∃ D', Law8 w0 w.heap.size ⟨n, [], []⟩ D' w' ∧ Below w.heap.size w w' ∧ ∀ b, b < w.heap.size → Free D' w' b := by
  refine (sto_New n w h1 h2).mono ?_
  rintro e w' ⟨rfl, hs, hb'⟩
  exact ⟨rfl, _, ⟨hs, fun b e => by rw [e]; exact hb.size, hb.trans (hb'.mono hb.size)⟩, hb', fun b hlt => ⟨fun e => by omega, Nat.lt_of_lt_of_le hlt hb'.size⟩⟩
def st0 : Sto := ⟨1000, [], []⟩
theorem st0_inv : Inv st0 := Inv.new 1000 (by decide) (by decide)
/-- two terms are put -/
theorem two_put (A B : List Pt) (hA : A.length ≤ 60) (hB : B.length ≤ 60) : ∃ a S1 M1 b S2 M2, PutIs st0 [] (goodT A) a 0 S1 M1 ∧ PutIs S1 M1 (goodT B) b 0 S2 M2 := by
  have sA := goodT_size A
  have sB := goodT_size B
  obtain ⟨a, S1, M1, h1⟩ := put_is st0_inv (MOk.nil st0) (good_check A hA) (by show ((0 : Nat) : Int) + _ ≤ 1000; omega)
  have r1 : S1.room = 1000 := h1.room
  have l1 : S1.cells.length ≤ 0 + (goodT A).size := h1.le.2
  obtain ⟨b, S2, M2, h2⟩ := put_is h1.inv h1.mok (good_check B hB) (by rw [r1]; omega)
  exact ⟨a, S1, M1, b, S2, M2, h1, h2⟩
/-- a term is put, or there is no room for it -/
theorem put_any {S : Sto} {M : List (Int × Int)} (hI : Inv S) (hM : MOk S M) {t : Tm} (hc : checkT t = 0) (h0 : 0 < S.cells.length) : ∃ x e S' M', PutIs S M t x e S' M' := by
  have hcnt : (cntM S M t).1 = true := cnt_all (fun n a ha => hM.inn _ (mget_some ha)) t 0 []
  by_cases hf : S.room - S.cells.length < ((cntM S M t).2.1 : Int)
  · refine ⟨0, 9, S, M, ?_, ?_, ?_, hI, hM, h0, ⟨Nat.le_refl _, by omega⟩, rfl, rfl⟩
    · unfold putA; simp [hc, hcnt, hf]
    · unfold putW; simp [hc, hcnt, hf]
    · unfold putN; simp [hc, hcnt, hf]
  · have hm : MayPut S M t := ⟨hc, hcnt, by unfold cntM at hf; omega⟩
    obtain ⟨e1, e2, e3⟩ := hm.eq
    have hok := hm.ok.1
    have hl := putS_len S M t
    have hlen := putT_len (fun n => mget M n) (lastTop S.cells) t S.cells.length []
    refine ⟨(putR S M t).1.toNat, 0, putS S M t, M ++ putN S M t, ?_, e1, rfl, hI.put hm, hM.put hI hm, by omega, ⟨by omega, ?_⟩, rfl, rfl⟩
    · rw [e2, Int.toNat_of_nonneg hok.1]
    · have : (putR S M t).2.1.length ≤ t.size := hlen
      omega
/-- three terms are put -/
theorem three_put (A B C : List Pt) (hA : A.length ≤ 60) (hB : B.length ≤ 60) (hC : C.length ≤ 60) : ∃ a S1 M1 b S2 M2 c e S3 M3, PutIs st0 [] (goodT A) a 0 S1 M1 ∧ PutIs S1 M1 (goodT B) b 0 S2 M2 ∧ PutIs S2 M2 (goodT C) c e S3 M3 := by
  obtain ⟨a, S1, M1, b, S2, M2, h1, h2⟩ := two_put A B hA hB
  obtain ⟨c, e, S3, M3, h3⟩ := put_any h2.inv h2.mok (good_check C hC) (by have := h2.lt; omega)
  exact ⟨a, S1, M1, b, S2, M2, c, e, S3, M3, h1, h2, h3⟩
/-! ### Unified -/
theorem uni_alike {S : Sto} (hS : Inv S) {sf : Bool} {a b : Nat} (ha : a < S.cells.length) (hb : b < S.cells.length) (h : uniR S sf a b = some true) : ∀ f, AlF (uniW S sf a b) f a b := by
  intro f
  have h' : (uniP sf 20000 20000 S [(a, b)]).1 = some true := h
  obtain ⟨R, h1, h2⟩ := uniP_closed sf 20000 20000 S [(a, b)] hS (inl1 ha hb) h'
  have e : uniW S sf a b = (uniP sf 20000 20000 S [(a, b)]).2.1 := if_pos h
  rw [e]
  exact h2.alike f a b (h1 (a, b) (List.mem_singleton.2 rfl))
theorem uni_closed {S : Sto} (hS : Inv S) {sf : Bool} {a b : Nat} (ha : a < S.cells.length) (hb : b < S.cells.length) (h : uniR S sf a b = some true) : ∃ R, R a b ∧ Closed (uniW S sf a b) R := by
  have h' : (uniP sf 20000 20000 S [(a, b)]).1 = some true := h
  obtain ⟨R, h1, h2⟩ := uniP_closed sf 20000 20000 S [(a, b)] hS (inl1 ha hb) h'
  have e : uniW S sf a b = (uniP sf 20000 20000 S [(a, b)]).2.1 := if_pos h
  rw [e]
  exact ⟨R, h1 (a, b) (List.mem_singleton.2 rfl), h2⟩
theorem uni_sol {S : Sto} (hS : Inv S) {E : Nat → Nat → Prop} (hE : Sol S E) {a b : Nat} (ha : a < S.cells.length) (hb : b < S.cells.length) (h : E a b) : (uniR S false a b = some true ∧ Sol (uniW S false a b) E) ∨ uniR S false a b = none := by
  rcases uniP_sol (E := E) 20000 20000 S [(a, b)] hS (inl1 ha hb) hE (fun p hp => by rw [List.mem_singleton.1 hp]; exact h) with ⟨h1, h2⟩ | h1
  · have h1' : uniR S false a b = some true := h1
    have e : uniW S false a b = (uniP false 20000 20000 S [(a, b)]).2.1 := if_pos h1'
    rw [e]
    exact .inl ⟨h1', h2⟩
  · exact .inr h1
theorem uni_other {S : Sto} {sf : Bool} {a b : Nat} (h : uniR S sf a b ≠ some true) : uniW S sf a b = S := if_neg h
theorem alike_get {T : Sto} {a b : Nat} (h : ∀ f, AlF T f a b) : getT T a = getT T b ∧ getE T a = getE T b := by
  have h1 := AlF.get (S := T) 2000 a b 0 (h 2000)
  have h2 := AlF.hgt (S := T) 2000 a b (h 2000)
  unfold getT getE
  rw [h1, h2]
  exact ⟨rfl, rfl⟩
theorem hasB_not {r : Option Bool} (h : hasB r = false) : r ≠ some true := fun e => by rw [e] at h; simp [hasB] at h
theorem hasB_yes {r : Option Bool} (h : hasB r = true) : r = some true := by simpa [hasB] using h
theorem hasE_or (r : Option Bool) : (hasE r = 0 ∧ r ≠ none) ∨ (hasE r = 16 ∧ r = none) := by
  unfold hasE
  split
  · rename_i h; exact .inr ⟨rfl, h⟩
  · rename_i h; exact .inl ⟨rfl, h⟩
/-- the other way round it is the same -/
theorem uni_ways {S : Sto} (hS : Inv S) {a b : Nat} (ha : a < S.cells.length) (hb : b < S.cells.length) (h1 : uniR S false a b ≠ none) (h2 : uniR S false b a ≠ none) : hasB (uniR S false a b) = hasB (uniR S false b a) := by
  have key : ∀ {a b : Nat}, a < S.cells.length → b < S.cells.length → uniR S false b a ≠ none → uniR S false a b = some true → uniR S false b a = some true := by
    intro a b ha hb h2 h
    have hal := uni_alike hS ha hb h
    have hsol := alike_sol hS (uniW_ext hS (sf := false) ha hb)
    rcases uni_sol hS hsol hb ha (hsol.symm _ _ hal) with ⟨h, -⟩ | h
    · exact h
    · exact absurd h h2
  cases e1 : hasB (uniR S false a b) with
  | true => rw [key ha hb h2 (hasB_yes e1)]; rfl
  | false =>
    cases e2 : hasB (uniR S false b a) with
    | true =>
      have := key hb ha h1 (hasB_yes e2)
      rw [this] at e1
      simp [hasB] at e1
    | false => rfl
end Go.Proofs.Ytoklbeogmcdgaaa.Tms
