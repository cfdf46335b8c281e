
/-
  Plain: what is got out of a store is of normal form (numbers and variables have no parts and no word, words no number).
  prolixref11.Copy, Alike, Ground, walked.
  prolixref11.Alike, walked.
-/
import Derived.Test.YtoklbeogmcdgaaaPlv
import Derived.Test.YtoklbeogmcdgaaaCqa
import Derived.Test.YtoklbeogmcdgaaaRrn
import Derived.Test.YtoklbeogmcdgaaaOrd
namespace Go.Proofs.Ytoklbeogmcdgaaa.Tms
open Go Go.RowKit Go.Proofs.Ytoklbeogmcdgaaa.Reg Go.Proofs.Ytoklbeogmcdgaaa.Rws Go.Proofs.Ytoklbeogmcdgaaa.Maps
set_option linter.unusedVariables false
set_option linter.unusedSimpArgs false

def NfC (c : SCell) : Prop := (c.k ≤ 2 → c.args = [] ∧ c.s.data.toList = []) ∧ (2 < c.k → c.n = 0)
def NfS (S : Sto) : Prop := ∀ c ∈ S.cells, NfC c
mutual
theorem putT_nf {told : Int → Option Int} {T0 : Int} : ∀ (t : Tm) (b : Nat) (F : List (Int × Int)), nfT t = true → ∀ d ∈ (putT told T0 b F t).2.1, NfC d
  | .mk k n s a, b, F, h => by
    unfold nfT at h
    rw [Bool.and_eq_true] at h
    intro d hd
    unfold putT at hd
    split at hd
    · split at hd
      · simp at hd
      · split at hd
        · simp at hd
        · simp only [List.mem_singleton] at hd
          subst hd
          exact ⟨fun _ => ⟨rfl, rfl⟩, fun h => by simp at h⟩
    · split at hd
      · simp only [List.mem_cons] at hd
        rcases hd with rfl | hd
        · exact ⟨fun h => by simp at h, fun _ => rfl⟩
        · exact putL_nf a _ _ h.2 d hd
      · simp only [List.mem_singleton] at hd
        subst hd
        refine ⟨fun hk => ⟨rfl, ?_⟩, fun hk => ?_⟩
        · have := h.1
          rw [if_pos hk] at this
          simp at this
          simpa using this.2
        · have := h.1
          rw [if_neg (by simp at hk ⊢; omega)] at this
          simpa using this
theorem putL_nf {told : Int → Option Int} {T0 : Int} : ∀ (l : List Tm) (b : Nat) (F : List (Int × Int)), nfL l = true → ∀ d ∈ (putL told T0 b F l).2.1, NfC d
  | [], b, F, h => by intro d hd; simp [putL] at hd
  | t :: l, b, F, h => by
    unfold nfL at h
    rw [Bool.and_eq_true] at h
    intro d hd
    simp only [putL, List.mem_append] at hd
    rcases hd with hd | hd
    · exact putT_nf t _ _ h.1 d hd
    · exact putL_nf l _ _ h.2 d hd
end
theorem NfS.new (n : Int) : NfS ⟨n, [], []⟩ := fun c hc => by simp at hc
theorem NfS.put {S : Sto} (h : NfS S) (M : List (Int × Int)) (t : Tm) (ht : nfT t = true) : NfS (putS S M t) := by
  intro c hc
  simp only [putS, plusS, List.mem_append] at hc
  rcases hc with hc | hc
  · exact h c hc
  · obtain ⟨d, hd, e1, e2, e3, e4, -⟩ := fixTop_mem hc
    have := putT_nf t _ _ ht d hd
    unfold NfC at this ⊢
    rw [e1, e2, e3, e4]
    exact this
theorem NfS.putW {S : Sto} (h : NfS S) (M : List (Int × Int)) (t : Tm) (ht : nfT t = true) : NfS (Tms.putW S M t) := by
  unfold Tms.putW
  split
  · exact h
  · split
    · exact h
    · split
      · exact h
      · exact h.put M t ht
theorem NfS.bind {S : Sto} (h : NfS S) (v t : Nat) : NfS (bindS S v t) := by
  intro c hc
  simp only [bindS, setTo] at hc
  split at hc
  · exact h c hc
  · rename_i d hd
    rcases List.mem_or_eq_of_mem_set hc with hc | rfl
    · exact h c hc
    · exact h d (List.mem_of_getElem? hd)
theorem NfS.bindW {S : Sto} (h : NfS S) (x y : Int) : NfS (Tms.bindW S x y) := by
  unfold Tms.bindW
  split
  · exact h
  · split
    · exact h.bind _ _
    · exact h
theorem NfS.cell {S : Sto} (h : NfS S) (x : Nat) : NfC (cellF S x) := by
  unfold cellF
  cases e : S.cells[fol S x]? with
  | none => exact ⟨fun _ => ⟨rfl, rfl⟩, fun h => by simp [zeroCell] at h⟩
  | some c => exact h c (List.mem_of_getElem? e)
theorem gfold_nf {g : Nat → Nat → Tm × Int × Nat} (hg : ∀ x n, (g x n).2.1 = 0 → nfT (g x n).1 = true) : ∀ (l : List Int) (st : List Tm × Int × Nat), nfL st.1 = true → nfL (l.foldl (gStep g) st).1 = true
  | [], st, h => h
  | a :: l, st, h => by
    rw [List.foldl_cons]
    refine gfold_nf hg l _ ?_
    unfold gStep
    split
    · exact h
    · split
      · rename_i h2
        have h3 := hg _ _ h2
        have : ∀ (m : List Tm) (u : Tm), nfL m = true → nfT u = true → nfL (m ++ [u]) = true := by
          intro m u
          induction m with
          | nil => intro _ hu; simp [nfL, hu]
          | cons z m ih => intro hm hu; simp only [List.cons_append, nfL, Bool.and_eq_true] at hm ⊢; exact ⟨hm.1, ih hm.2 hu⟩
        exact this _ _ h h3
      · exact h
theorem getG_nf {S : Sto} (h : NfS S) : ∀ (f x n : Nat), (getG S f x n).2.1 = 0 → nfT (getG S f x n).1 = true
  | 0, x, n, e => by simp [getG] at e
  | f + 1, x, n, e => by
    have hc := h.cell x
    unfold getG at e ⊢
    split at e
    · simp at e
    rename_i h1
    rw [if_neg h1]
    split at e
    · rename_i h2; exact absurd e h2
    rename_i h2
    rw [if_neg h2]
    have hl := gfold_nf (getG_nf h f) (cellF S x).args ([], 0, n + 1) rfl
    have hk : (cellF S x).k ≤ 2 → (List.foldl (gStep (getG S f)) ([], 0, n + 1) (cellF S x).args).1 = [] := fun hk => by rw [(hc.1 hk).1]; rfl
    generalize List.foldl (gStep (getG S f)) ([], 0, n + 1) (cellF S x).args = st at *
    unfold withArgs shellC
    split
    · rename_i h3
      have := hk (by rw [h3]; decide)
      simp [nfT, Tm.k, Tm.n, Tm.s, this, nfL]
    · show nfT (.mk (cellF S x).k (cellF S x).n (cellF S x).s st.1) = true
      rw [nfT, Bool.and_eq_true]
      refine ⟨?_, hl⟩
      by_cases h4 : (cellF S x).k ≤ 2
      · rw [if_pos h4]
        simp [hk h4, (hc.1 h4).2]
      · rw [if_neg h4]
        simpa using hc.2 (by omega)
theorem getT_nf {S : Sto} (h : NfS S) (x : Nat) (e : getE S x = 0) : nfT (getT S x) = true := by
  unfold getT
  split
  · rename_i h1; exact getG_nf h _ _ _ h1
  · decide
theorem getL_nf {S : Sto} (h : NfS S) (x : Int) (e : (getL S x).2 = 0) : nfT (getL S x).1 = true := by
  unfold getL at e ⊢
  split
  · rename_i hx
    rw [if_pos hx] at e
    exact getT_nf h _ e
  · decide
end Go.Proofs.Ytoklbeogmcdgaaa.Tms
namespace Go.Proofs.Ytoklbeogmcdgaaa.Tms
open Go Go.RowKit Go.Proofs.Ytoklbeogmcdgaaa.Reg Go.Proofs.Ytoklbeogmcdgaaa.Rws Go.Proofs.Ytoklbeogmcdgaaa.Maps
set_option linter.unusedVariables false
set_option linter.unusedSimpArgs false

theorem ref8_Put0 {w0 w : World} {q : Nat} {R : Sto} {E : Nat → Prop} (h : Ref8 w0 q R E w) (hI : Inv R) {t : Tm} {v : Value} {P : Nat → Prop} (ht : IsTm w P v t) (hP : ∀ b, P b → ¬ E b) (hl : t.size ≤ 1000000) (hvl : (rvT t).length ≤ 1000000) :
    Calls Try.prog 33 #[.pointer (some ⟨q, 0, none⟩), v, .slice none 0 0] w fun e w' => ∃ v', e = .returned (.tuple #[.int .i64 (putA R [] t).1, v', .int .i64 (putA R [] t).2]) ∧ RefLaw w0 q E w (putW R [] t) w' := by
  refine (ref_PutV (base := w0.heap.size) (M := []) (v := .slice none 0 0) w h.ref hI (Own.nil _ _ _) (fun k e => by cases e) h.bel.size (by simp) (by simpa using hl) ht (fun b hb => ⟨hP b hb, fun e => by cases e⟩) hvl).mono ?_
  rintro e w' ⟨pv', E', rfl, hp⟩
  refine ⟨pv', rfl, h.did ⟨E', hp.ref, ⟨hp.kp.os, hp.kp.tape, hp.kp.output, hp.kp.size, fun b h1 h2 => hp.kp.block b h1 fun e => ?_⟩, hp.dn⟩⟩
  rcases e with e | e
  · exact h2 e
  · cases e
set_option maxRecDepth 100000 in
set_option maxHeartbeats 4000000 in
theorem rq_Copy {w0 w : World} {q1 q2 : Nat} {S1 S2 : Sto} {E1 E2 : Nat → Prop} (h1 : RefAt w E1 q1 S1) (hI1 : Inv S1) (h2 : Ref8 w0 q2 S2 E2 w) (hI2 : Inv S2) (x : Int) (hnf : glE S1 x = 0 → nfT (glT S1 x) = true) :
    Calls Try.prog 53 #[.pointer (some ⟨q1, 0, none⟩), .int .i64 x, .pointer (some ⟨q2, 0, none⟩)] w fun e w' => e = .returned (.tuple #[.int .i64 (cpA S1 S2 x).1, .int .i64 (cpA S1 S2 x).2]) ∧ RefLaw w0 q2 E2 w (cpW S1 S2 x) w' := by
  have H2 := Lib.hid h2
  obtain ⟨A1, A2, hA⟩ : ∃ A1 A2, cpA S1 S2 x = (A1, A2) := ⟨_, _, rfl⟩
  obtain ⟨S3, hS3⟩ : ∃ S3, cpW S1 S2 x = S3 := ⟨_, rfl⟩
  rw [hA, hS3]
  dsimp only
  have HAA := Lib.hid hA
  have HSS := Lib.hid hS3
  clear hA hS3
  have HI2 := Lib.hid hI2
  have HG := Lib.hid (ref_GetL w h1 hI1 x)
  have hdl := h2.dl
  clear h1 h2 hI1 hI2
  go_enter Try.func53, Try.ntmps53
  go_wp2_with fail
  refine HG.out.mono ?_
  rintro e1 w1 ⟨v1, rfl, i1, b1_⟩
  obtain ⟨T, hT⟩ : ∃ T, T = glT S1 x := ⟨_, rfl⟩
  obtain ⟨er, her⟩ : ∃ e, e = glE S1 x := ⟨_, rfl⟩
  have e1 : (getL S1 x).1 = T := hT.symm
  have e2 : (getL S1 x).2 = er := her.symm
  rw [e1] at i1
  rw [e2]
  obtain ⟨a1, c1, rfl⟩ := i1.form
  have hbA := below_new w1 (.cells #[.int .i64 T.k, .int .i64 T.n, .string T.s, .slice a1 T.args.length c1] 33 (0, 0))
  have hrA := heap_alloc_new w1 (.cells #[.int .i64 T.k, .int .i64 T.n, .string T.s, .slice a1 T.args.length c1] 33 (0, 0))
  have HI1 := Lib.hid (i1.below hbA)
  have HB1 := Lib.hid (b1_.trans (hbA.mono b1_.size))
  obtain ⟨u0, u1, u2, u3⟩ := row4 hrA
  have hTs : T.size ≤ 20000 := by rw [hT]; exact glT_size _ _
  clear e1 e2 i1 b1_ hbA hrA HG
  by_cases he : er = 0
  · subst he
    have a1_ : cpA S1 S2 x = putA S2 [] (numT T) := by rw [hT]; exact if_neg (by rw [← her]; simp)
    have a2_ : cpW S1 S2 x = putW S2 [] (numT T) := by rw [hT]; exact if_neg (by rw [← her]; simp)
    have hnu := num_rr T (by rw [hT]; exact hnf her.symm)
    rw [HAA.out] at a1_
    rw [HSS.out] at a2_
    subst a2_
    have HA1 := Lib.hid a1_
    have HER := Lib.hid her
    have HTT := Lib.hid hT
    clear a1_ her hT
    go_wp2_with fail
    refine (ref_number T _ _ _ (by omega) HI1.out).mono ?_
    rintro e3 w3 ⟨v3, rfl, i3, b3⟩
    rw [← hnu] at i3
    have h3 := H2.out.below (HB1.out.trans (b3.mono HB1.out.size))
    have HS3 := Lib.hid h3.2.1
    have HL3 := Lib.hid h3.1
    have hsz := HB1.out.size
    have HI3 := Lib.hid i3
    clear h3 i3 b3 u0 u1 u2 u3 HI1
    go_wp2_with fail
    refine (ref8_Put0 HL3.out HI2.out HI3.out (fun b hb e => by have := hdl b e; have hb' := hb; simp at hb' hsz; omega) (by rw [numT_size]; omega) (by have := rvT_len (numT T); have := numT_size T; omega)).mono ?_
    rintro e4 w4 ⟨v4, rfl, E4, l4, s4⟩
    have HF := Lib.hid (show RefLaw w0 q2 E2 w (putW S2 [] (numT T)) w4 from ⟨E4, l4, HS3.out.trans s4⟩)
    rw [← HA1.out]
    clear l4 s4
    go_wp2
    go_ret2
    exact ⟨rfl, HF.out⟩
  · have e3 : (er != 0) = true := by simpa using he
    have a1_ : cpA S1 S2 x = (0, er) := by rw [her]; exact if_pos (by rw [← her]; exact he)
    have a2_ : cpW S1 S2 x = S2 := if_pos (by rw [← her]; exact he)
    rw [HAA.out] at a1_
    rw [HSS.out] at a2_
    obtain ⟨rfl, rfl⟩ : A1 = 0 ∧ A2 = er := Prod.mk.inj a1_
    subst a2_
    have HF := Lib.hid (H2.out.same HB1.out)
    have HER := Lib.hid her
    have HTT := Lib.hid hT
    clear her hT a1_
    go_wp2
    go_ret2
    exact ⟨rfl, HF.out⟩
set_option maxRecDepth 100000 in
set_option maxHeartbeats 4000000 in
theorem rq_Ground {w : World} {q : Nat} {S : Sto} {E : Nat → Prop} (h : RefAt w E q S) (hI : Inv S) (x : Int) (hnf : glE S x = 0 → nfT (glT S x) = true) :
    Calls Try.prog 56 #[.pointer (some ⟨q, 0, none⟩), .int .i64 x] w fun e w' => e = .returned (.tuple #[.bool (grA S x).1, .int .i64 (grA S x).2]) ∧ Below w.heap.size w w' := by
  obtain ⟨A1, A2, hA⟩ : ∃ A1 A2, grA S x = (A1, A2) := ⟨_, _, rfl⟩
  rw [hA]
  dsimp only
  have HAA := Lib.hid hA
  have HG := Lib.hid (ref_GetL w h hI x)
  clear h hI hA
  go_enter Try.func56, Try.ntmps56
  go_wp2_with fail
  refine HG.out.mono ?_
  rintro e1 w1 ⟨v1, rfl, i1, b1_⟩
  obtain ⟨T, hT⟩ : ∃ T, T = glT S x := ⟨_, rfl⟩
  obtain ⟨er, her⟩ : ∃ e, e = glE S x := ⟨_, rfl⟩
  have e1 : (getL S x).1 = T := hT.symm
  have e2 : (getL S x).2 = er := her.symm
  rw [e1] at i1
  rw [e2]
  obtain ⟨a1, c1, rfl⟩ := i1.form
  have hbA := below_new w1 (.cells #[.int .i64 T.k, .int .i64 T.n, .string T.s, .slice a1 T.args.length c1] 33 (0, 0))
  have hrA := heap_alloc_new w1 (.cells #[.int .i64 T.k, .int .i64 T.n, .string T.s, .slice a1 T.args.length c1] 33 (0, 0))
  have HI1 := Lib.hid (i1.below hbA)
  have HB1 := Lib.hid (b1_.trans (hbA.mono b1_.size))
  obtain ⟨u0, u1, u2, u3⟩ := row4 hrA
  have hTs : T.size ≤ 20000 := by rw [hT]; exact glT_size _ _
  clear e1 e2 i1 b1_ hbA hrA HG
  by_cases he : er = 0
  · subst he
    have a1_ : grA S x = ((varsT T).length == 0, 0) := by rw [hT]; exact if_neg (by rw [← her]; simp)
    rw [vars_rv T (by rw [hT]; exact hnf her.symm), HAA.out] at a1_
    obtain ⟨hA1, rfl⟩ : A1 = _ ∧ A2 = _ := Prod.mk.inj a1_
    have HER := Lib.hid her
    have HTT := Lib.hid hT
    have HA1 := Lib.hid hA1
    clear her hT a1_ hA1
    go_wp2_with fail
    refine (ref_vars T.size T _ _ _ (Nat.le_refl _) (by omega) HI1.out).mono ?_
    rintro e3 w3 ⟨v3, rfl, i3, b3⟩
    obtain ⟨q3, c3, rfl⟩ := i3.form
    have HF := Lib.hid (HB1.out.trans (b3.mono HB1.out.size))
    obtain ⟨n, hn⟩ : ∃ n, n = (rvT T).length := ⟨_, rfl⟩
    rw [← hn]
    have hA2 : A1 = (n == 0) := by rw [hn]; exact HA1.out
    have b1 : (((n : Nat) : Int) == 0) = A1 := by rw [hA2]; cases n <;> rfl
    have HN := Lib.hid hn
    clear i3 b3 u0 u1 u2 u3 hn hA2
    go_wp2
    go_ret2
    exact ⟨rfl, HF.out⟩
  · have e3 : (er == 0) = false := by simpa using he
    have a1_ : grA S x = (false, er) := by rw [her]; exact if_pos (by rw [← her]; exact he)
    rw [HAA.out] at a1_
    obtain ⟨rfl, rfl⟩ : A1 = _ ∧ A2 = _ := Prod.mk.inj a1_
    have HER := Lib.hid her
    have HTT := Lib.hid hT
    clear her hT a1_
    go_wp2
    go_ret2
    exact ⟨rfl, HB1.out⟩
end Go.Proofs.Ytoklbeogmcdgaaa.Tms
namespace Go.Proofs.Ytoklbeogmcdgaaa.Tms
open Go Go.RowKit Go.Proofs.Ytoklbeogmcdgaaa.Reg Go.Proofs.Ytoklbeogmcdgaaa.Rws Go.Proofs.Ytoklbeogmcdgaaa.Maps
set_option linter.unusedVariables false
set_option linter.unusedSimpArgs false

theorem alike_is {T U : Tm} (hT : nfT T = true) (hU : nfT U = true) : sameT (rrT (rvT T) T) (rrT (rvT U) U) = (cmpT (numT T) (numT U) == 0) := by
  rw [← num_rr T hT, ← num_rr U hU, Bool.eq_iff_iff, ← cmpT_same]
  simp
theorem alA_bad {S : Sto} {a b : Int} (h : glE S a ≠ 0) : alA S a b = (false, glE S a) := by
  have e : glsE S [a, b] = glE S a := by unfold glsE; exact if_pos h
  unfold alA
  rw [e, if_pos h]
theorem alA_bad2 {S : Sto} {a b : Int} (h0 : glE S a = 0) (h : glE S b ≠ 0) : alA S a b = (false, glE S b) := by
  have e : glsE S [a, b] = glE S b := by unfold glsE; rw [if_neg (by rw [h0]; simp)]; unfold glsE; exact if_pos h
  unfold alA
  rw [e, if_pos h]
theorem alA_ok {S : Sto} {a b : Int} (h0 : glE S a = 0) (h : glE S b = 0) : alA S a b = (cmpT (numT (glT S a)) (numT (glT S b)) == 0, 0) := by
  have e : glsE S [a, b] = 0 := by unfold glsE; rw [if_neg (by rw [h0]; simp)]; unfold glsE; rw [if_neg (by rw [h]; simp)]; rfl
  unfold alA
  rw [e, if_neg (by simp)]
set_option maxRecDepth 100000 in
set_option maxHeartbeats 4000000 in
theorem rq_Alike {w : World} {q : Nat} {S : Sto} {E : Nat → Prop} (h : RefAt w E q S) (hI : Inv S) (a b : Int) (hnf : ∀ x, glE S x = 0 → nfT (glT S x) = true) :
    Calls Try.prog 54 #[.pointer (some ⟨q, 0, none⟩), .int .i64 a, .int .i64 b] w fun e w' => e = .returned (.tuple #[.bool (alA S a b).1, .int .i64 (alA S a b).2]) ∧ Below w.heap.size w w' := by
  obtain ⟨A1, A2, hA⟩ : ∃ A1 A2, alA S a b = (A1, A2) := ⟨_, _, rfl⟩
  rw [hA]
  dsimp only
  have HAA := Lib.hid hA
  have HI := Lib.hid hI
  have H := Lib.hid h
  clear h hI hA
  go_enter Try.func54, Try.ntmps54
  go_wp2_with fail
  refine (ref_GetL w H.out HI.out a).mono ?_
  rintro e1 w1 ⟨v1, rfl, i1, b1_⟩
  obtain ⟨T, hT⟩ : ∃ T, T = glT S a := ⟨_, rfl⟩
  obtain ⟨er, her⟩ : ∃ e, e = glE S a := ⟨_, rfl⟩
  have e1 : (getL S a).1 = T := hT.symm
  have e2 : (getL S a).2 = er := her.symm
  rw [e1] at i1
  rw [e2]
  obtain ⟨a1, c1, rfl⟩ := i1.form
  have hbA := below_new w1 (.cells #[.int .i64 T.k, .int .i64 T.n, .string T.s, .slice a1 T.args.length c1] 33 (0, 0))
  have hrA := heap_alloc_new w1 (.cells #[.int .i64 T.k, .int .i64 T.n, .string T.s, .slice a1 T.args.length c1] 33 (0, 0))
  have HI1 := Lib.hid (i1.below hbA)
  have HB1 := Lib.hid (b1_.trans (hbA.mono b1_.size))
  have HR1 := Lib.hid hrA
  have HER := Lib.hid her
  have HTT := Lib.hid hT
  have hTs : T.size ≤ 20000 := by rw [hT]; exact glT_size _ _
  clear e1 e2 i1 b1_ hbA hrA her hT
  by_cases he : er = 0
  · subst he
    go_wp2_with fail
    generalize w1.alloc (.cells #[.int .i64 T.k, .int .i64 T.n, .string T.s, .slice a1 T.args.length c1] 33 (0, 0)) = w2 at *
    have hlt1 : w1.heap.size < w2.heap.size := (Array.getElem?_eq_some_iff.1 HR1.out).1
    generalize w1.heap.size = g1 at *
    refine (ref_GetL w2 (H.out.below HB1.out) HI.out b).mono ?_
    rintro e3 w3 ⟨v3, rfl, i3, b3⟩
    obtain ⟨U, hU⟩ : ∃ U, U = glT S b := ⟨_, rfl⟩
    obtain ⟨es, hes⟩ : ∃ e, e = glE S b := ⟨_, rfl⟩
    have e1 : (getL S b).1 = U := hU.symm
    have e2 : (getL S b).2 = es := hes.symm
    rw [e1] at i3
    rw [e2]
    obtain ⟨a3, c3, rfl⟩ := i3.form
    have hbC := below_new w3 (.cells #[.int .i64 U.k, .int .i64 U.n, .string U.s, .slice a3 U.args.length c3] 33 (0, 0))
    have hrC := heap_alloc_new w3 (.cells #[.int .i64 U.k, .int .i64 U.n, .string U.s, .slice a3 U.args.length c3] 33 (0, 0))
    have HI3 := Lib.hid (i3.below hbC)
    have hb24 := b3.trans (hbC.mono b3.size)
    have HB4 := Lib.hid (HB1.out.trans (hb24.mono HB1.out.size))
    have HJ1 := Lib.hid (HI1.out.below hb24)
    have HR4 := Lib.hid ((hb24.block _ hlt1).trans HR1.out)
    have HR3 := Lib.hid hrC
    have HES := Lib.hid hes
    have HUU := Lib.hid hU
    have hUs : U.size ≤ 20000 := by rw [hU]; exact glT_size _ _
    clear e1 e2 i3 b3 hbC hrC hb24 hes hU HI1 HR1
    by_cases he3 : es = 0
    · subst he3
      have a1_ := alA_ok (S := S) (a := a) (b := b) HER.out.symm HES.out.symm
      rw [HAA.out, ← HTT.out, ← HUU.out] at a1_
      obtain ⟨hA1, rfl⟩ : A1 = _ ∧ A2 = _ := Prod.mk.inj a1_
      rw [← alike_is (by rw [HTT.out]; exact hnf _ HER.out.symm) (by rw [HUU.out]; exact hnf _ HES.out.symm)] at hA1
      have HA1 := Lib.hid hA1
      clear a1_ hA1
      go_wp2
      refine wp_region_rest (by kernel_rfl) ?_
      generalize w3.alloc (.cells #[.int .i64 U.k, .int .i64 U.n, .string U.s, .slice a3 U.args.length c3] 33 (0, 0)) = w4 at *
      have hd := (Below.refl w4.heap.size w4).drew
      have hz13 : g1 < w4.heap.size := (Array.getElem?_eq_some_iff.1 HR4.out).1
      have hz3 : w3.heap.size < w4.heap.size := (Array.getElem?_eq_some_iff.1 HR3.out).1
      obtain ⟨x0, x1, x2, x3⟩ := row4 ((hd.block _ hz13).trans HR4.out)
      obtain ⟨y0, y1, y2, y3⟩ := row4 ((hd.block _ hz3).trans HR3.out)
      have HIU := Lib.hid (HI3.out.below hd)
      have HIT := Lib.hid (HJ1.out.below hd)
      have HB5 := Lib.hid (HB4.out.trans (hd.mono HB4.out.size))
      clear hd
      generalize w4.drew = W0 at *
      refine rest_chain 0 3 [(false, [0, 2]), (true, [1])] [(false, [_, _]), (true, [_])] rfl (by kernel_rfl) (by kernel_rfl) rfl (by kernel_rfl) (by kernel_rfl) (.inr (by kernel_rfl)) ?_
      refine chain_soft ?_
      intro E hE
      go_wp2
      clear x0 x1 x2 x3 y0 y1 y2 y3
      refine chain_one ?_
      intro E hE
      go_wp2_with (refine (ref_number T _ _ _ (by omega) HIT.out).mono ?_; rintro e5 w5 ⟨v5, rfl, hi5, hb5⟩; have HI5 := Lib.hid hi5; have HB6 := Lib.hid hb5; clear hi5 hb5)
      refine ⟨HB6.out, ?_⟩
      refine chain_nil ?_
      refine rest_lineL 3 7 [_, _, _, _] rfl (by kernel_rfl) (by decide) (by decide) (by kernel_rfl) ?_
      go_wp2_with fail
      refine (ref_number U _ _ _ (by omega) (HIU.out.below HB6.out)).mono ?_
      rintro e7 w7 ⟨v7, rfl, i7, b7⟩
      have HJ5 := Lib.hid (HI5.out.below b7)
      have HI7 := Lib.hid i7
      have HB7 := Lib.hid (HB5.out.trans ((HB6.out.trans (b7.mono HB6.out.size)).mono HB5.out.size))
      clear i7 b7 HI5 HB6
      have hrs : (rrT (rvT T) T).size = T.size := by rw [← num_rr T (by rw [HTT.out]; exact hnf _ HER.out.symm)]; exact numT_size T
      go_wp2_with fail
      refine (ref_same _ (rrT (rvT T) T) (rrT (rvT U) U) _ _ _ _ _ (Nat.le_refl _) (by rw [hrs]; omega) HJ5.out HI7.out).mono ?_
      rintro e8 w8 ⟨rfl, b8⟩
      rw [← HA1.out]
      have HB8 := Lib.hid (HB7.out.trans (b8.mono HB7.out.size))
      clear b8
      go_wp2
      refine then_rest (rest_end (by decide) ?_)
      go_wp2
      go_ret2
      exact ⟨rfl, HB8.out⟩
    · have e3 : (es != 0) = true := by simpa using he3
      have a1_ := alA_bad2 (S := S) (a := a) (b := b) HER.out.symm (by rw [← HES.out]; exact he3)
      rw [HAA.out, ← HES.out] at a1_
      obtain ⟨rfl, rfl⟩ : A1 = _ ∧ A2 = _ := Prod.mk.inj a1_
      clear a1_
      go_wp2
      go_ret2
      exact ⟨rfl, HB4.out⟩
  · have e3 : (er != 0) = true := by simpa using he
    have a1_ := alA_bad (S := S) (a := a) (b := b) (by rw [← HER.out]; exact he)
    rw [HAA.out, ← HER.out] at a1_
    obtain ⟨rfl, rfl⟩ : A1 = _ ∧ A2 = _ := Prod.mk.inj a1_
    clear a1_
    go_wp2
    go_ret2
    exact ⟨rfl, HB1.out⟩
end Go.Proofs.Ytoklbeogmcdgaaa.Tms
