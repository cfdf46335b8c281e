
/-
  The reference's Put, plain: the new cells are no more than need counts.
-/
import Derived.Test.YtoklbeogmcdgaaaRfi
import Derived.Test.YtoklbeogmcdgaaaNur
namespace Go.Proofs.Ytoklbeogmcdgaaa.Tms
open Go Go.RowKit Go.Proofs.Ytoklbeogmcdgaaa.Reg Go.Proofs.Ytoklbeogmcdgaaa.Rws Go.Proofs.Ytoklbeogmcdgaaa.Maps
set_option linter.unusedVariables false
set_option linter.unusedSimpArgs false

theorem numL_if (L : List Int) (n : Int) : numL L n = if n ∈ L then L else L ++ [n] := by
  unfold numL
  by_cases h : n ∈ L
  · rw [if_pos h, if_pos (place_mem.2 h)]
  · rw [if_neg h, if_neg fun e => h (place_mem.1 e)]
/-- numbers added to a list: those that it lacks -/
theorem numL_split (K : List Int) : ∀ l : List Int, l.reverse.foldl numL K = K ++ (l.reverse.foldl numL []).filter fun n => decide (n ∉ K)
  | [] => by simp
  | n :: l => by
    have ih := numL_split K l
    rw [List.reverse_cons, List.foldl_append, List.foldl_append, List.foldl_cons, List.foldl_nil, List.foldl_cons, List.foldl_nil, ih, numL_if, numL_if]
    generalize l.reverse.foldl numL [] = R
    by_cases h1 : n ∈ K
    · rw [if_pos (List.mem_append_left _ h1)]
      by_cases h2 : n ∈ R
      · rw [if_pos h2]
      · rw [if_neg h2, List.filter_append]
        simp [h1]
    · by_cases h2 : n ∈ R
      · rw [if_pos h2, if_pos (List.mem_append_right _ (List.mem_filter.2 ⟨h2, by simpa using h1⟩))]
      · rw [if_neg h2, if_neg (by simp [h1, h2]), List.filter_append, List.append_assoc]
        simp [h1]
theorem numL_lenF (K l : List Int) : (l.foldl numL K).length = K.length + ((l.foldl numL []).filter fun n => decide (n ∉ K)).length := by
  have := numL_split K l.reverse
  rw [List.reverse_reverse] at this
  rw [this, List.length_append]
theorem mget_none_keys {F : List (Int × Int)} {n : Int} : mget F n = none ↔ n ∉ F.map (·.1) := by
  induction F with
  | nil => simp [mget]
  | cons p F ih =>
    simp only [mget, List.map_cons, List.mem_cons, not_or]
    by_cases e : n = p.1
    · rw [if_pos e]; simp [e]
    · rw [if_neg e, ih]; simp [e]
mutual
theorem rput_keys {T0 : Int} : ∀ (t : Tm) (b : Nat) (F : List (Int × Int)), mayT t = true → (putT (fun _ => none) T0 b F t).2.2.map (·.1) = (vcT t).foldl numL (F.map (·.1)) ∧ (putT (fun _ => none) T0 b F t).2.1.length + F.length = solT t + (putT (fun _ => none) T0 b F t).2.2.length
  | .mk k n s a, b, F, hm => by
    by_cases k1 : k = 1
    · subst k1
      have ha : a = [] := mayv_leaf hm (by decide)
      subst ha
      rw [putT_var (t := .mk 1 n s []) rfl]
      simp only [Tm.n, vcT, if_true, vcL, List.foldl_cons, List.foldl_nil, numL_if, solT, Nat.zero_add]
      cases e : mget F n with
      | some x =>
        have hmem : n ∈ F.map (·.1) := by
          by_cases h : n ∈ F.map (·.1)
          · exact h
          · rw [mget_none_keys.2 h] at e; cases e
        rw [if_pos hmem]
        exact ⟨rfl, by simp⟩
      | none =>
        rw [if_neg (mget_none_keys.1 e)]
        exact ⟨by simp, by simp; omega⟩
    · by_cases k4 : k = 4
      · rw [putT_comp (t := .mk k n s a) k4]
        simp only [mayT, Bool.and_eq_true] at hm
        have ih := rput_keysL (T0 := T0) a (b + 1) F hm.2
        simp only [Tm.args, vcT, if_neg k1, solT, List.length_cons]
        exact ⟨ih.1, by have := ih.2; omega⟩
      · have ha : a = [] := mayv_leaf hm k4
        subst ha
        rw [putT_leaf (t := .mk k n s []) k1 k4]
        constructor
        · simp [vcT, k1, vcL]
        · simp [solT, k1, solL]
theorem rput_keysL {T0 : Int} : ∀ (l : List Tm) (b : Nat) (F : List (Int × Int)), mayTL l = true → (putL (fun _ => none) T0 b F l).2.2.map (·.1) = (vcL l).foldl numL (F.map (·.1)) ∧ (putL (fun _ => none) T0 b F l).2.1.length + F.length = solL l + (putL (fun _ => none) T0 b F l).2.2.length
  | [], b, F, _ => by simp [putL, vcL, solL]
  | t :: l, b, F, hm => by
    simp only [mayTL, Bool.and_eq_true] at hm
    have i1 := rput_keys (T0 := T0) t b F hm.1
    have i2 := rput_keysL (T0 := T0) l (b + (putT (fun _ => none) T0 b F t).2.1.length) (putT (fun _ => none) T0 b F t).2.2 hm.2
    simp only [putL, vcL, List.foldl_append, solL, List.length_append]
    exact ⟨by rw [i2.1, i1.1], by have := i1.2; have := i2.2; omega⟩
end
mutual
theorem may_nf : ∀ t : Tm, mayT t = true → nfT t = true
  | .mk k n s a, h => by
    simp only [mayT, Bool.and_eq_true] at h
    simp only [nfT, Bool.and_eq_true]
    refine ⟨?_, may_nfL a h.2⟩
    have hb := h.1
    have hemp : ∀ s : ByteArray, s.toList.isEmpty = true → (s.data.toList == []) = true := fun s hs => by
      rw [ByteArray.toList_eq] at hs
      simpa using hs
    unfold mayB at hb
    by_cases k1 : k = 1
    · rw [if_pos k1] at hb
      simp only [Bool.and_eq_true, decide_eq_true_eq] at hb
      rw [if_pos (by omega), Bool.and_eq_true]
      exact ⟨by simpa using hb.2.2, hemp s hb.2.1⟩
    · rw [if_neg k1] at hb
      by_cases k2 : k = 2
      · rw [if_pos k2] at hb
        simp only [Bool.and_eq_true, decide_eq_true_eq] at hb
        rw [if_pos (by omega), Bool.and_eq_true]
        exact ⟨by simpa using hb.2, hemp s hb.1⟩
      · rw [if_neg k2] at hb
        by_cases k3 : k = 3
        · rw [if_pos k3] at hb
          simp only [Bool.and_eq_true, decide_eq_true_eq] at hb
          rw [if_neg (by omega)]
          simpa using hb.1
        · rw [if_neg k3] at hb
          by_cases k4 : k = 4
          · rw [if_pos k4] at hb
            simp only [Bool.and_eq_true, decide_eq_true_eq] at hb
            rw [if_neg (by omega)]
            simpa using hb.1
          · rw [if_neg k4] at hb
            cases hb
theorem may_nfL : ∀ l : List Tm, mayTL l = true → nfL l = true
  | [], _ => rfl
  | t :: l, h => by
    simp only [mayTL, Bool.and_eq_true] at h
    simp only [nfL, Bool.and_eq_true]
    exact ⟨may_nf t h.1, may_nfL l h.2⟩
end
/-- just so many cells -/
theorem put_need (T0 : Int) {L : List (Int × Int)} (hL : ∀ q ∈ L, 0 ≤ q.2) {t : Tm} (h : mayT t = true) (b : Nat) : (putT (fun _ => none) T0 b L t).2.1.length = needR L t := by
  obtain ⟨h1, h2⟩ := rput_keys (T0 := T0) t b L h
  have h3 : (putT (fun _ => none) T0 b L t).2.2.length = L.length + newR L (rvT t) := by
    have e := congrArg List.length h1
    rw [List.length_map, numL_lenF, List.length_map] at e
    rw [e, ← vars_rv t (may_nf t h), varsT_occv]
    congr 1
    unfold newR
    congr 1
    refine List.filter_congr fun v _ => ?_
    by_cases hn : mget L v = none
    · rw [hn]; simp [mget_none_keys.1 hn]
    · obtain ⟨x, hx⟩ := Option.ne_none_iff_exists'.1 hn
      have := hL _ (mget_some hx)
      have hk : v ∈ L.map (·.1) := by
        by_cases h : v ∈ L.map (·.1)
        · exact h
        · exact absurd (mget_none_keys.2 h) hn
      rw [hx]
      simp only at this
      simp only [Option.getD_some]
      have h1 : decide (x < 0) = false := by simp; omega
      have h2 : decide (v ∉ L.map (·.1)) = false := by simpa using hk
      rw [h1]
      exact h2
  unfold needR
  omega
theorem mget_both (M F : List (Int × Int)) (n : Int) : mget (M ++ F) n = (mget M n).or (mget F n) := by
  induction M with
  | nil => simp [mget]
  | cons p M ih =>
    simp only [List.cons_append, mget]
    split
    · rfl
    · exact ih
mutual
/-- told variables apart, or in one list: the same -/
theorem put_told (M : List (Int × Int)) {T0 : Int} : ∀ (t : Tm) (b : Nat) (F : List (Int × Int)), putT (fun _ => none) T0 b (M ++ F) t = ((putT (fun n => mget M n) T0 b F t).1, (putT (fun n => mget M n) T0 b F t).2.1, M ++ (putT (fun n => mget M n) T0 b F t).2.2)
  | .mk k n s a, b, F => by
    by_cases k1 : k = 1
    · rw [putT_var (t := .mk k n s a) k1, putT_var (t := .mk k n s a) k1]
      simp only [Tm.n, mget_both]
      cases e : mget M n with
      | some x => rfl
      | none =>
        simp only [Option.none_or]
        cases e2 : mget F n with
        | some x => rfl
        | none => simp
    · by_cases k4 : k = 4
      · rw [putT_comp (t := .mk k n s a) k4, putT_comp (t := .mk k n s a) k4, put_toldL M (Tm.mk k n s a).args]
      · rw [putT_leaf (t := .mk k n s a) k1 k4, putT_leaf (t := .mk k n s a) k1 k4]
theorem put_toldL (M : List (Int × Int)) {T0 : Int} : ∀ (l : List Tm) (b : Nat) (F : List (Int × Int)), putL (fun _ => none) T0 b (M ++ F) l = ((putL (fun n => mget M n) T0 b F l).1, (putL (fun n => mget M n) T0 b F l).2.1, M ++ (putL (fun n => mget M n) T0 b F l).2.2)
  | [], b, F => by simp [putL]
  | t :: l, b, F => by
    simp only [putL, put_told M t, put_toldL M l]
end
mutual
/-- whether all told cells are there -/
theorem cnt_lost (M : List (Int × Int)) {N : Nat} : ∀ (t : Tm) (c : Nat) (F : List (Int × Int)), mayT t = true → (cntT (fun n => mget M n) N c F t).1 = true → ∀ v ∈ vcT t, lostR N M v = false
  | .mk k n s a, c, F, hm, h => by
    by_cases k1 : k = 1
    · subst k1
      have ha : a = [] := mayv_leaf hm (by decide)
      subst ha
      rw [cntT_var (t := .mk 1 n s []) rfl] at h
      simp only [vcT, if_true, vcL, List.mem_singleton]
      rintro v rfl
      simp only [Tm.n] at h
      unfold lostR
      cases e : mget M v with
      | none => rfl
      | some x =>
        rw [e] at h
        simp only at h
        simp only [Option.getD_some, h]
        rfl
    · rw [cntT_not (t := .mk k n s a) k1] at h
      simp only [mayT, Bool.and_eq_true] at hm
      simp only [vcT, if_neg k1]
      exact cnt_lostL M a _ _ hm.2 h
theorem cnt_lostL (M : List (Int × Int)) {N : Nat} : ∀ (l : List Tm) (c : Nat) (F : List (Int × Int)), mayTL l = true → (cntL (fun n => mget M n) N c F l).1 = true → ∀ v ∈ vcL l, lostR N M v = false
  | [], c, F, _, _, v, hv => by simp [vcL] at hv
  | t :: l, c, F, hm, h, v, hv => by
    simp only [mayTL, Bool.and_eq_true] at hm
    unfold cntL at h
    simp only [vcL, List.mem_append] at hv
    by_cases h1 : (cntT (fun n => mget M n) N c F t).1 = true
    · rw [if_pos h1] at h
      rcases hv with hv | hv
      · exact cnt_lost M t c F hm.1 h1 v hv
      · exact cnt_lostL M l _ _ hm.2 h v hv
    · rw [if_neg h1] at h
      exact absurd h h1
end
mutual
theorem cnt_there (M : List (Int × Int)) {N : Nat} : ∀ (t : Tm) (c : Nat) (F : List (Int × Int)), (∀ v ∈ vcT t, lostR N M v = false) → (cntT (fun n => mget M n) N c F t).1 = true
  | .mk k n s a, c, F, h => by
    by_cases k1 : k = 1
    · subst k1
      rw [cntT_var (t := .mk 1 n s a) rfl]
      have h1 := h n (by simp [vcT])
      simp only [Tm.n]
      unfold lostR at h1
      cases e : mget M n with
      | none =>
        simp only
        cases mget F n <;> rfl
      | some x =>
        rw [e] at h1
        simp only [Option.isSome_some, Bool.true_and, Option.getD_some, Bool.not_eq_false'] at h1
        exact h1
    · rw [cntT_not (t := .mk k n s a) k1]
      simp only [vcT, if_neg k1] at h
      exact cnt_thereL M a _ _ h
theorem cnt_thereL (M : List (Int × Int)) {N : Nat} : ∀ (l : List Tm) (c : Nat) (F : List (Int × Int)), (∀ v ∈ vcL l, lostR N M v = false) → (cntL (fun n => mget M n) N c F l).1 = true
  | [], c, F, _ => rfl
  | t :: l, c, F, h => by
    simp only [vcL, List.mem_append] at h
    unfold cntL
    rw [if_pos (cnt_there M t c F fun v hv => h v (.inl hv))]
    exact cnt_thereL M l _ _ fun v hv => h v (.inr hv)
end
theorem mem_numLF {x : Int} : ∀ (l K : List Int), x ∈ l.foldl numL K ↔ x ∈ K ∨ x ∈ l
  | [], K => by simp
  | n :: l, K => by
    rw [List.foldl_cons, mem_numLF l, numL_if]
    by_cases h : n ∈ K
    · rw [if_pos h, List.mem_cons]
      constructor
      · rintro (h1 | h1)
        · exact .inl h1
        · exact .inr (.inr h1)
      · rintro (h1 | rfl | h1)
        · exact .inl h1
        · exact .inl h
        · exact .inr h1
    · rw [if_neg h, List.mem_cons, List.mem_append, List.mem_singleton, or_assoc]
theorem lost_cnt {S : Sto} {M : List (Int × Int)} {t : Tm} (h : mayT t = true) : (rvT t).any (lostR S.cells.length M) = true ↔ (cntM S M t).1 = false := by
  have hmem : ∀ x, x ∈ rvT t ↔ x ∈ vcT t := fun x => by rw [← vars_rv t (may_nf t h), varsT_occv, mem_numLF]; simp
  constructor
  · intro h1
    obtain ⟨x, h2, h3⟩ := List.any_eq_true.1 h1
    cases e : (cntM S M t).1 with
    | false => rfl
    | true =>
      rw [cnt_lost M t 0 [] h e x ((hmem x).1 h2)] at h3
      cases h3
  · intro h1
    cases e : (rvT t).any (lostR S.cells.length M) with
    | true => rfl
    | false =>
      have h2 := cnt_there M t 0 [] (N := S.cells.length) fun v hv => by
        have := List.any_eq_false.1 e v ((hmem v).2 hv)
        simpa using this
      have h3 : (cntM S M t).1 = true := h2
      rw [h3] at h1
      cases h1
/-- the new cells, their tops not told -/
def putCL (S : Sto) (M : List (Int × Int)) (t : Tm) : List SCell := if checkT t ≠ 0 then [] else if (cntM S M t).1 = false then [] else if S.room - S.cells.length < ((cntM S M t).2.1 : Int) then [] else (putR S M t).2.1
theorem rput_is {S : Sto} {M : List (Int × Int)} (hM : ∀ q ∈ M, 0 ≤ q.2) (t : Tm) : rPut (lastTop S.cells) S M t = (putA S M t, putCL S M t, M ++ putN S M t) := by
  unfold rPut putA putCL putN
  by_cases hc : checkT t ≠ 0
  · simp only [if_pos hc, List.append_nil]
  simp only [if_neg hc]
  have hc' : checkT t = 0 := by simpa using hc
  have hm := check_may hc'
  by_cases h1 : (cntM S M t).1 = false
  · simp only [if_pos h1, if_pos ((lost_cnt hm).2 h1), List.append_nil]
  simp only [if_neg h1, if_neg fun h => h1 ((lost_cnt hm).1 h)]
  have h1' : (cntM S M t).1 = true := by simpa using h1
  have hcnt := (cnt_put (lastTop S.cells) t 0 S.cells.length [] [] hm rfl h1').1
  have ht := put_told M (T0 := lastTop S.cells) t S.cells.length []
  rw [List.append_nil] at ht
  have hn := put_need (lastTop S.cells) hM hm S.cells.length
  have hnc : (cntM S M t).2.1 = needR M t := by
    rw [← hn, ht]
    unfold cntM
    rw [hcnt, Nat.zero_add]
  rw [hnc]
  by_cases h2 : S.room - S.cells.length < (needR M t : Int)
  · simp only [if_pos h2, List.append_nil]
  · simp only [if_neg h2, ht]
    rfl
def strip (c : SCell) : SCell := { c with top := 0 }
theorem each_strip {w : World} {P : Nat → Prop} : ∀ (l m : List SCell) (xss : List (List Value)), l.map strip = m.map strip → Each rcKind w P xss l → Each rcKind w P xss m
  | [], [], xss, _, h => h
  | [], _ :: _, _, e, _ => by simp at e
  | _ :: _, [], _, e, _ => by simp at e
  | c :: l, d :: m, [], _, h => h.elim
  | c :: l, d :: m, xs :: xss, e, h => by
    simp only [List.map_cons, List.cons.injEq] at e
    obtain ⟨⟨av, e1, hav⟩, h'⟩ := h
    have e0 := e.1
    unfold strip at e0
    simp only [SCell.mk.injEq] at e0
    obtain ⟨k1, k2, k3, k4, k5, -⟩ := e0
    exact ⟨⟨av, by rw [e1, k1, k2, k3, k5], by rw [← k4]; exact hav⟩, each_strip l m xss e.2 h'⟩
theorem fixTop_strip : ∀ (T : Int) (l : List SCell), (fixTop T l).map strip = l.map strip
  | _, [] => rfl
  | T, c :: l => by simp [fixTop, strip, fixTop_strip]
theorem RefAt.putW {w : World} {D : Nat → Prop} {p : Nat} {S : Sto} {M : List (Int × Int)} {t : Tm} (h : RefAt w D p ⟨S.room, S.cells ++ putCL S M t, S.bonds⟩) : RefAt w D p (putW S M t) := by
  unfold putCL at h
  unfold Tms.putW
  by_cases hc : checkT t ≠ 0
  · rw [if_pos hc] at h ⊢; rwa [List.append_nil] at h
  rw [if_neg hc] at h ⊢
  by_cases h1 : (cntM S M t).1 = false
  · rw [if_pos h1] at h ⊢; rwa [List.append_nil] at h
  rw [if_neg h1] at h ⊢
  by_cases h2 : S.room - S.cells.length < ((cntM S M t).2.1 : Int)
  · rw [if_pos h2] at h ⊢; rwa [List.append_nil] at h
  rw [if_neg h2] at h ⊢
  refine h.newTop rfl rfl (by show (S.cells ++ _).length = (S.cells ++ _).length; simp [fixTop_len]) fun P xss hx => ?_
  refine each_strip (S.cells ++ (putR S M t).2.1) (S.cells ++ fixTop (lastTop S.cells) (putR S M t).2.1) xss ?_ hx
  rw [List.map_append, List.map_append, fixTop_strip]
/-- the reference's Put in the law's terms -/
structure RefPut (w : World) (D : Nat → Prop) (p base : Nat) (S' : Sto) (M' : List (Int × Int)) (v v' : Value) (D' : Nat → Prop) (w' : World) : Prop where
  ref : RefAt w' D' p S'
  prs : Prs w' base v' M'
  kp : Keeps w w' (fun b => D b ∨ v.ownBlock = some b)
  dn : ∀ b, D' b → D b ∨ (w.heap.size ≤ b ∧ b < w'.heap.size)
  vo : ∀ k, v'.ownBlock = some k → v.ownBlock = some k ∨ w.heap.size ≤ k
  vd : ∀ k, v'.ownBlock = some k → ¬ D' k
theorem ref_PutV {p base : Nat} {t : Tm} {S : Sto} {D : Nat → Prop} {M : List (Int × Int)} {v tv : Value} {P : Nat → Prop} (w : World) (hS : RefAt w D p S) (hI : Inv S) (hL : Prs w base v M) (hvd : ∀ k, v.ownBlock = some k → ¬ D k) (hbs : base ≤ w.heap.size) (hM : ∀ q ∈ M, 0 ≤ q.2) (hLl : M.length + t.size ≤ 1000000) (ht : IsTm w P tv t)
    (hP : ∀ b, P b → ¬ D b ∧ v.ownBlock ≠ some b) (hvl : (rvT t).length ≤ 1000000) :
    Calls Try.prog 33 #[.pointer (some ⟨p, 0, none⟩), tv, v] w fun e w' => ∃ v' D', e = .returned (.tuple #[.int .i64 (putA S M t).1, v', .int .i64 (putA S M t).2]) ∧ RefPut w D p base (putW S M t) (M ++ putN S M t) v v' D' w' := by
  have hr := hI.room
  have hr0 := hI.room0
  have hsm := hI.small
  refine (ref_Put (lastTop S.cells) w hS hL hvd hbs hM hLl ht hP (by omega) ⟨by omega, by omega⟩ hvl fun hc => Nat.le_of_eq (put_need _ hM (check_may hc) _)).mono ?_
  rintro e w' ⟨v', D', rfl, h⟩
  have hr := h.ref
  have hp := h.prs
  rw [rput_is hM] at hr hp ⊢
  exact ⟨v', D', rfl, hr.putW, hp, h.kp, h.dn, h.vo, h.vd⟩
end Go.Proofs.Ytoklbeogmcdgaaa.Tms
