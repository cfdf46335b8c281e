
/-
  The reference's order of bytes, walked over the program.
  The reference's variables and renumbering of a term as plain functions: on made-good terms they are the program's. Plain.
  The reference's Vars, walked over the program.
-/
import Derived.Test.YtoklbeogmcdgaaaVars
import Derived.Test.YtoklbeogmcdgaaaChn
import Derived.Test.YtoklbeogmcdgaaaMend
import Derived.Laws.Cover1
import Derived.Test.YtoklbeogmcdgaaaPlc
namespace Go.Proofs.Ytoklbeogmcdgaaa.Tms
open Go Go.RowKit Go.Proofs.Ytoklbeogmcdgaaa.Reg
set_option linter.unusedVariables false

mutual
/-- numbers and variables have no parts and no word, words no number -/
def nfT : Tm → Bool
  | .mk k n s a => (if k ≤ 2 then a.length == 0 && s.data.toList == [] else n == 0) && nfL a
def nfL : List Tm → Bool
  | [] => true
  | t :: l => nfT t && nfL l
end
mutual
theorem mend_nf : ∀ t : Tm, nfT (mendT t) = true
  | .mk k n s a => by
    have hl := mendL_nf a
    unfold mendT
    repeat' split
    all_goals simp [nfT, nfL, atomA, atomT, hl]
theorem mendL_nf : ∀ l : List Tm, nfL (mendL l) = true
  | [] => by simp [mendL, nfL]
  | t :: l => by simp [mendL, nfL, mend_nf t, mendL_nf l]
end
theorem good_nf (L : List Pt) : nfT (goodT L) = true := mend_nf _
end Go.Proofs.Ytoklbeogmcdgaaa.Tms
namespace Go.Proofs.Ytoklbeogmcdgaaa.Tms
open Go Go.RowKit Go.Proofs.Ytoklbeogmcdgaaa.Reg
set_option linter.unusedVariables false

mutual
/-- the variables of a term, as the reference tells them -/
def rvT : Tm → List Int
  | .mk k n _ a => if k = 1 then [n] else rvL [] a
def rvL : List Int → List Tm → List Int
  | L, [] => L
  | L, t :: l => rvL ((rvT t).foldl numL L) l
end
theorem rvL_take : ∀ (l : List Tm) (M : List Int) (q : Nat) (h : q < l.length), rvL M (l.take (q + 1)) = (rvT l[q]).foldl numL (rvL M (l.take q))
  | t :: l, M, 0, _ => by simp [rvL]
  | t :: l, M, q + 1, h => by
    simp only [List.take_succ_cons, rvL, List.getElem_cons_succ]
    exact rvL_take l _ q (by simpa using h)
theorem fold_len : ∀ (X L : List Int), (X.foldl numL L).length ≤ L.length + X.length
  | [], L => by simp
  | x :: X, L => by
    have h1 := fold_len X (numL L x)
    have h2 := numL_len L x
    simp only [List.foldl_cons, List.length_cons]
    omega
mutual
theorem rvT_len : ∀ t : Tm, (rvT t).length ≤ t.size
  | .mk k n s a => by
    have h := rvL_len [] a
    rw [rvT]
    simp only [Tm.size]
    split
    · simp
    · simp only [List.length_nil, Nat.zero_add] at h; omega
theorem rvL_len : ∀ (M : List Int) (l : List Tm), (rvL M l).length ≤ M.length + sizeL l
  | M, [] => by simp [rvL, sizeL]
  | M, t :: l => by
    have h1 := rvL_len ((rvT t).foldl numL M) l
    have h2 := rvT_len t
    have h3 := fold_len (rvT t) M
    rw [rvL]
    simp only [sizeL]
    omega
end

theorem place_mem : ∀ {L : List Int} {n : Int}, (place L n).isSome = true ↔ n ∈ L
  | [], n => by simp [place]
  | x :: L, n => by
    unfold place
    split
    · rename_i e; simp [e]
    · rename_i e; rw [Option.isSome_map, place_mem]; simp [e]
theorem numL_in {L : List Int} {n : Int} (h : n ∈ L) : numL L n = L := by unfold numL; rw [if_pos (place_mem.2 h)]
theorem numL_out {L : List Int} {n : Int} (h : n ∉ L) : numL L n = L ++ [n] := by unfold numL; rw [if_neg fun e => h (place_mem.1 e)]
theorem mem_numL {L : List Int} {n y : Int} (h : y ∈ L) : y ∈ numL L n := by unfold numL; split; exact h; exact List.mem_append_left _ h
theorem self_numL (L : List Int) (n : Int) : n ∈ numL L n := by
  by_cases h : n ∈ L
  · rw [numL_in h]; exact h
  · rw [numL_out h]; simp
theorem mem_fold : ∀ {X L : List Int} {y : Int}, y ∈ L ∨ y ∈ X → y ∈ X.foldl numL L
  | [], L, y, h => by simpa using h
  | x :: X, L, y, h => by
    rw [List.foldl_cons]
    apply mem_fold
    rcases h with h | h
    · exact .inl (mem_numL h)
    · rcases List.mem_cons.1 h with rfl | h
      · exact .inl (self_numL _ _)
      · exact .inr h
theorem fold_num (L M : List Int) (x : Int) : (numL M x).foldl numL L = numL (M.foldl numL L) x := by
  by_cases h : x ∈ M
  · rw [numL_in h, numL_in (mem_fold (.inr h))]
  · rw [numL_out h, List.foldl_append]; rfl
theorem fold_fold : ∀ (X L M : List Int), (X.foldl numL M).foldl numL L = X.foldl numL (M.foldl numL L)
  | [], L, M => rfl
  | x :: X, L, M => by
    rw [List.foldl_cons, List.foldl_cons, fold_fold X, fold_num]
mutual
theorem parts_rv : ∀ (t : Tm) (d : Int) (L : List Int), nfT t = true → (parts d t).foldl takeL L = (rvT t).foldl numL L
  | .mk k n s a, d, L, h => by
    rw [parts, rvT, List.foldl_cons]
    by_cases hk : k = 1
    · have ha : a = [] := by
        simp only [nfT, Bool.and_eq_true] at h
        subst hk
        simp at h
        exact h.1.1
      subst ha
      rw [if_pos hk]
      simp [takeL, Tm.k, Tm.n, hk, partsL]
    · have h2 : nfL a = true := by
        simp only [nfT, Bool.and_eq_true] at h
        exact h.2
      rw [if_neg hk]
      have := partsL_rv a (d + 1) L [] h2
      rw [List.foldl_nil] at this
      have e : takeL L (Tm.mk k n s a, d) = L := by simp [takeL, Tm.k, hk]
      rw [e, this]
theorem partsL_rv : ∀ (l : List Tm) (d : Int) (L M : List Int), nfL l = true → (partsL d l).foldl takeL (M.foldl numL L) = (rvL M l).foldl numL L
  | [], d, L, M, h => by simp [partsL, rvL]
  | t :: l, d, L, M, h => by
    simp only [nfL, Bool.and_eq_true] at h
    rw [partsL, rvL, List.foldl_append, parts_rv t d _ h.1, ← fold_fold, partsL_rv l d L _ h.2]
end
/-- no number is told twice -/
def Own1 (M : List Int) : Prop := M.foldl numL [] = M
theorem own1_fold {M X : List Int} (h : Own1 M) : Own1 (X.foldl numL M) := by unfold Own1 at *; rw [fold_fold, h]
theorem rvL_own : ∀ (l : List Tm) (M : List Int), Own1 M → Own1 (rvL M l)
  | [], M, h => h
  | t :: l, M, h => by rw [rvL]; exact rvL_own l _ (own1_fold h)
theorem rvT_own (t : Tm) : Own1 (rvT t) := by
  obtain ⟨k, n, s, a⟩ := t
  rw [rvT]
  split
  · rfl
  · exact rvL_own a [] rfl
theorem vars_rv (t : Tm) (h : nfT t = true) : varsT t = rvT t := by
  unfold varsT varsD
  rw [parts_rv t 1 [] h]
  exact rvT_own t

mutual
/-- each variable's number is its place in a list -/
def rrT (L : List Int) : Tm → Tm
  | .mk k n s a => if k = 1 then .mk 1 (placeI L n) ⟨#[]⟩ [] else .mk k n s (rrL L a)
def rrL (L : List Int) : List Tm → List Tm
  | [] => []
  | t :: l => rrT L t :: rrL L l
end
theorem rrL_len (L : List Int) : ∀ l, (rrL L l).length = l.length
  | [] => rfl
  | t :: l => by simp [rrL, rrL_len L l]
theorem rrL_take (L : List Int) : ∀ (l : List Tm) (q : Nat) (h : q < l.length), rrL L (l.take (q + 1)) = rrL L (l.take q) ++ [rrT L l[q]]
  | t :: l, 0, _ => by simp [rrL]
  | t :: l, q + 1, h => by
    simp only [List.take_succ_cons, rrL, List.getElem_cons_succ, List.cons_append]
    rw [rrL_take L l q (by simpa using h)]
theorem rvL_mem : ∀ (l : List Tm) (M : List Int) (y : Int), y ∈ M → y ∈ rvL M l
  | [], M, y, h => h
  | t :: l, M, y, h => by rw [rvL]; exact rvL_mem l _ y (mem_fold (.inl h))
theorem num_place {L : List Int} {n : Int} (h : n ∈ L) : (numP L n : Int) = placeI L n := by
  have := place_mem.2 h
  unfold numP placeI
  cases hp : place L n with
  | none => rw [hp] at this; cases this
  | some p => rfl
mutual
theorem ren_rr (L : List Int) : ∀ t : Tm, nfT t = true → (∀ y ∈ rvT t, y ∈ L) → renT (fun n => (numP L n : Int)) t = rrT L t
  | .mk k n s a, h, hv => by
    rw [renT, rrT]
    by_cases hk : k = 1
    · have ha : a = [] ∧ s.data.toList = [] := by
        simp only [nfT, Bool.and_eq_true] at h
        subst hk
        simp at h
        exact ⟨h.1.1, by rw [h.1.2]⟩
      obtain ⟨rfl, hs⟩ := ha
      obtain ⟨⟨sl⟩⟩ := s
      simp only at hs
      subst hs
      have hn : n ∈ L := hv n (by rw [rvT, if_pos hk]; simp)
      rw [if_pos hk, if_pos hk, num_place hn, hk, renL]
    · have h2 : nfL a = true := by
        simp only [nfT, Bool.and_eq_true] at h
        exact h.2
      rw [if_neg hk, if_neg hk, renL_rr L a [] h2 fun y hy => hv y (by rw [rvT, if_neg hk]; exact hy)]
theorem renL_rr (L : List Int) : ∀ (l : List Tm) (M : List Int), nfL l = true → (∀ y ∈ rvL M l, y ∈ L) → renL (fun n => (numP L n : Int)) l = rrL L l
  | [], M, h, hv => by rw [renL, rrL]
  | t :: l, M, h, hv => by
    simp only [nfL, Bool.and_eq_true] at h
    rw [renL, rrL, ren_rr L t h.1 fun y hy => hv y (by rw [rvL]; exact rvL_mem l _ y (mem_fold (.inr hy))), renL_rr L l _ h.2 fun y hy => hv y (by rw [rvL]; exact hy)]
end
/-- numbered as the reference numbers -/
theorem num_rr (t : Tm) (h : nfT t = true) : numT t = rrT (rvT t) t := by
  unfold numT
  rw [vars_rv t h]
  exact ren_rr _ t h fun y hy => hy
end Go.Proofs.Ytoklbeogmcdgaaa.Tms
namespace Go.Proofs.Ytoklbeogmcdgaaa.Tms
open Go Go.RowKit Go.Proofs.Ytoklbeogmcdgaaa.Reg Go.Proofs.Ytoklbeogmcdgaaa.Rws
set_option linter.unusedVariables false

theorem own_ints {w : World} {base : Nat} {lv : Value} {L : List Int} (h : Own intKind w base (fun _ => False) lv L) : IntSl w (fun b => lv.ownBlock = some b ∧ base ≤ b) lv L := by
  rcases h.form with ⟨rfl, e⟩ | ⟨g, c, rfl⟩
  · subst e
    exact ⟨none, 0, rfl, by simp, by decide, fun i hi => by simp at hi⟩
  · have hlow := h.low g rfl
    obtain ⟨xss, h1, h2⟩ := h
    have hfl := each_ints h2
    obtain ⟨-, h0 | ⟨g', cap', cur, e, hb, hg, hc, hm, hsz, ht⟩⟩ := id h1
    · cases h0.1
    · simp only [Value.slice.injEq, Option.some.injEq, Addr.mk.injEq, and_true, true_and] at e
      obtain ⟨rfl, rfl⟩ := e
      refine ⟨_, _, rfl, hc, hm, fun i hi => ⟨g, 0, rfl, ⟨rfl, hlow.1⟩, hlow.2, ?_⟩⟩
      have h5 := h1.cellAt i (by simpa [intKind] using hi)
      rw [Nat.zero_add, h5, hfl]
      simp [hi]
theorem IntSl.imp {w w' : World} {P P' : Nat → Prop} {v : Value} {L : List Int} (h : IntSl w P v L) (hs : w.heap.size ≤ w'.heap.size) (hP : ∀ b, P b → b < w.heap.size → P' b) (hw : ∀ b, P b → b < w.heap.size → w'.heap[b]? = w.heap[b]?) : IntSl w' P' v L := by
  obtain ⟨a, cap, e, h1, h2, h3⟩ := h
  refine ⟨a, cap, e, h1, h2, fun i hi => ?_⟩
  obtain ⟨b, off, e, hp, hl, hc⟩ := h3 i hi
  exact ⟨b, off, e, hP b hp hl, by omega, (World.cell?_of_block (a := ⟨b, off + i, none⟩) (hw b hp hl)).trans hc⟩
theorem own_int_form {w : World} {base : Nat} {P : Nat → Prop} {v : Value} {L : List Int} (h : Own intKind w base P v L) : ∃ q c, v = .slice q L.length c := by
  rcases h.form with ⟨rfl, e⟩ | ⟨g, c, rfl⟩
  · exact ⟨none, 0, by rw [e]; rfl⟩
  · exact ⟨_, c, rfl⟩
theorem one_int (w : World) (B : Nat) (hB : B ≤ w.heap.size) (n : Int) (T : TypeId) : IntSl (w.alloc (.cells #[.int .i64 n] T (0, 0))) (fun b => B ≤ b) (.slice (some ⟨w.heap.size, 0, none⟩) 1 1) [n] := by
  have hr := heap_alloc_new w (.cells #[.int .i64 n] T (0, 0))
  refine ⟨_, _, rfl, by simp, by decide, fun i hi => ⟨_, _, rfl, hB, by simp, ?_⟩⟩
  obtain rfl : i = 0 := by simp at hi; omega
  exact cell_of_row _ _ 0 _ _ _ hr

def RvO (ts : List Tm) (w : World) (vo vi : Value) (wr : World) : Prop :=
  ∃ q : Nat, q ≤ ts.length ∧ vi = .int .i64 q ∧ Own intKind wr w.heap.size (fun _ => False) vo (rvL [] (ts.take q)) ∧ Below w.heap.size w wr
def RvI (M X : List Int) (vx : Value) (w : World) (vo vj : Value) (wr : World) : Prop :=
  ∃ j : Nat, j ≤ X.length ∧ vj = .int .i64 j ∧ Own intKind wr w.heap.size (fun _ => False) vo ((X.take j).foldl numL M) ∧ Below w.heap.size w wr ∧ IntSl wr (fun b => vo.ownBlock ≠ some b) vx X
theorem fold_take (X M : List Int) (j : Nat) (h : j < X.length) : (X.take (j + 1)).foldl numL M = numL ((X.take j).foldl numL M) X[j] := by
  rw [List.take_succ_eq_append_getElem h, List.foldl_append]; rfl
set_option maxRecDepth 100000 in
set_option maxHeartbeats 2000000 in
theorem ref_vars (N : Nat) : ∀ (t : Tm) (v : Value) (P : Nat → Prop) (w : World), t.size ≤ N → t.size ≤ 1000000000 → IsTm w P v t →
    Calls Try.prog 71 #[v] w fun e w' => ∃ v', e = .returned v' ∧ IntSl w' (fun b => w.heap.size ≤ b) v' (rvT t) ∧ Below w.heap.size w w' := by
  induction N with
  | zero => intro t v P w hN hM; obtain ⟨k, n, s, a⟩ := t; simp [Tm.size] at hN
  | succ N ih =>
    intro t v P w hN hM h1
    have IH := Lib.hid ih
    clear ih
    obtain ⟨a, cap, rfl⟩ := h1.form
    have s1 := h1.args
    obtain ⟨k, n, s, ts⟩ := t
    simp only [Tm.k, Tm.n, Tm.s, Tm.args] at *
    have S1 := Lib.hid s1
    have hlen : ts.length ≤ 1000000000 := by have := len_le ts; simp only [Tm.size] at hM; omega
    have HN : Hid (sizeL ts ≤ N) := Lib.hid (by simp only [Tm.size] at hN; omega)
    have HM : Hid (sizeL ts ≤ 1000000000) := Lib.hid (by simp only [Tm.size] at hM; omega)
    have hal : Below w.heap.size w (w.alloc (.cells #[.int .i64 k, .int .i64 n, .string s, .slice a ts.length cap] 33)) := (Below.refl _ _).alloc (Nat.le_refl _) _
    have HAL := Lib.hid hal
    clear h1 s1 hN hM hal
    by_cases e1 : k = 1
    · have b1 : (k == 1) = true := by simpa using e1
      have hr : rvT (.mk k n s ts) = [n] := by rw [rvT, if_pos e1]
      have HR := Lib.hid hr
      have hone := one_int (w.alloc (.cells #[.int .i64 k, .int .i64 n, .string s, .slice a ts.length cap] 33)) w.heap.size (by simp) n 2
      have HONE := Lib.hid hone
      clear hr e1 hone
      go_enter Try.func71, Try.ntmps71
      go_wp2
      go_ret
      exact ⟨_, rfl, by rw [HR.out]; simpa using HONE.out, HAL.out.alloc (by simp) _⟩
    have b1 : (k == 1) = false := by simpa using e1
    have hr : rvT (.mk k n s ts) = rvL [] ts := by rw [rvT, if_neg e1]
    have HR := Lib.hid hr
    clear hr e1
    go_enter Try.func71, Try.ntmps71
    go_wp2
    have hst : RvO ts w (.slice none 0 0) (.int .i64 ((0 : Nat) : Int)) (w.alloc (.cells #[.int .i64 k, .int .i64 n, .string s, .slice a ts.length cap] 33)) := ⟨0, by omega, rfl, by simpa [rvL] using Own.nil _ _ _, HAL.out⟩
    have HST := Lib.hid hst
    clear hst
    generalize (w.alloc (.cells #[.int .i64 k, .int .i64 n, .string s, .slice a ts.length cap] 33)) = W at *
    go_loopw [3, 17] (fun vo vi wr => RvO ts w vo vi wr) (fun _ vi _ => ts.length - (intOf vi).toNat)
    case atStart => exact HST.out
    case round =>
      obtain ⟨q, hq, rfl, hown, hbl⟩ := hrel
      have HOWN := Lib.hid hown
      have HBL := Lib.hid hbl
      clear HST hown hbl
      by_cases hql : q < ts.length
      · obtain ⟨g1, o1, rfl, p1, m1⟩ := (S1.out.below HBL.out).at q hql
        obtain ⟨c1, d1, x10, x11, x12, x13, i1, l1⟩ := m1.read
        have h1s := size_mem hql
        have HX := Lib.hid (show ts[q].size ≤ N by have := HN.out; omega)
        have HX2 := Lib.hid (show ts[q].size ≤ 1000000000 by have := HM.out; omega)
        have hnx := rvL_take ts [] q hql
        have HNX := Lib.hid hnx
        have hml : (rvL [] (ts.take q)).length ≤ 1000000000 := by
          have h1 := rvL_len [] (ts.take q)
          have h2 := sizeL_take ts q
          have := HM.out
          simp only [List.length_nil, Nat.zero_add] at h1
          omega
        have HML := Lib.hid hml
        have I1 := Lib.hid i1
        clear m1 i1 hnx h1s hml
        generalize ts[q] = x at *
        generalize rvL [] (ts.take q) = M at *
        have hin : (q : Int) < (ts.length : Int) := by omega
        have hin0 : (0 : Int) ≤ (q : Int) := by omega
        have hbx : Below wr.heap.size wr (wr.alloc (.cells #[.int .i64 x.k, .int .i64 x.n, .string x.s, .slice c1 x.args.length d1] 33)) := (Below.refl _ _).alloc (Nat.le_refl _) _
        have hbs : (wr.alloc (.cells #[.int .i64 x.k, .int .i64 x.n, .string x.s, .slice c1 x.args.length d1] 33)).heap.size = wr.heap.size + 1 := by simp
        have hxl := rvT_len x
        have HXL : Hid ((rvT x).length ≤ 1000000000) := Lib.hid (by have := HX2.out; omega)
        have I2 := Lib.hid (I1.out.below hbx)
        have HBX := Lib.hid hbx
        have HBS := Lib.hid hbs
        clear hbx hbs hxl I1
        go_wp2_with (go_at_call 71
                     refine (IH.out x _ _ _ HX.out HX2.out I2.out).mono ?_
                     rintro e w9 ⟨vx, rfl, hix, hb9⟩
                     obtain ⟨ax, cx, rfl, -, -, -⟩ := id hix
                     have HIX := Lib.hid hix
                     have HB9 := Lib.hid hb9
                     clear hix hb9 x10 x11 x12 x13 l1)
        have hb09 : Below wr.heap.size wr w9 := HBX.out.trans (HB9.out.mono (by have := HBS.out; omega))
        have hst9 : RvI M (rvT x) (.slice ax (rvT x).length cx) w u3 (.int .i64 ((0 : Nat) : Int)) w9 :=
          ⟨0, by omega, rfl, by simpa using HOWN.out.below hb09, HBL.out.trans (hb09.mono HBL.out.size), HIX.out.imp (Nat.le_refl _) (fun b h _ e => by have := (HOWN.out.low b e).2; have := HBS.out; omega) (fun _ _ _ => rfl)⟩
        have HST9 := Lib.hid hst9
        have HXX : Hid (rvT x = rvT x) := Lib.hid rfl
        clear hb09 hst9 HIX HB9 HBX I2 HBS HOWN HBL
        generalize rvT x = X at *
        go_loopw [3, 24] (fun vo vj w4 => RvI M X (.slice ax X.length cx) w vo vj w4) (fun _ vj _ => X.length - (intOf vj).toNat)
        case atStart => exact HST9.out
        case round =>
          obtain ⟨j, hj, rfl, hown, hbl, hix⟩ := hrel
          have HOWN := Lib.hid hown
          have HBL := Lib.hid hbl
          have HIX := Lib.hid hix
          obtain ⟨qa, ca, rfl⟩ := own_int_form hown
          have hxl : X.length ≤ 1000000000 := HXL.out
          clear HST9 hown hbl hix
          by_cases hjl : j < X.length
          · have hnxj := fold_take X M j hjl
            have HNXJ := Lib.hid hnxj
            have hll := fold_len (X.take j) M
            have hlm : ((X.take j).foldl numL M).length ≤ 2000000000 := by
              have := HML.out; have := HXL.out; rw [List.length_take] at hll; omega
            have HLM := Lib.hid hlm
            obtain ⟨ax', cx', e', hcl, hcm, hcells⟩ := id HIX.out
            simp only [Value.slice.injEq, true_and] at e'
            obtain ⟨rfl, rfl⟩ := e'
            obtain ⟨gx, ox, rfl, -, -, y0⟩ := hcells j hjl
            clear hnxj hll hlm hcl hcm hcells
            generalize (X.take j).foldl numL M = L at *
            generalize X[j] = z at *
            have hjn : (j : Int) < (X.length : Int) := by omega
            have hj0 : (0 : Int) ≤ (j : Int) := by omega
            cases hp : place L z with
            | some p =>
              have hz : numL L z = L := by simp [numL, hp]
              have hpl : placeI L z = p := by simp [placeI, hp]
              have hneg : decide (placeI L z < 0) = false := by rw [hpl]; simp
              have HZ := Lib.hid hz
              clear hz hp hpl
              go_wp2_with (go_at_call 103; refine (ref_place L z _ _ _ (own_ints HOWN.out)).mono ?_; rintro e2 w2 ⟨rfl, rfl⟩)
              go_roundw
              case rel => exact ⟨j + 1, by omega, by go_num, by rw [HNXJ.out, HZ.out]; exact HOWN.out, HBL.out, HIX.out⟩
              case measure => simp [intOf]; omega
            | none =>
              have hz : numL L z = L ++ [z] := by simp [numL, hp]
              have hpl : placeI L z = -1 := by simp [placeI, hp]
              have hneg : decide (placeI L z < 0) = true := by rw [hpl]; simp
              have HZ := Lib.hid hz
              clear hz hp hpl
              go_wp2_with (first
                | (go_at_call 103; refine (ref_place L z _ _ _ (own_ints HOWN.out)).mono ?_; rintro e2 w2 ⟨rfl, rfl⟩)
                | (with_reducible show wpList _ _ _ (⟨some 35, _, _, _, _, _⟩ :: _) _ _
                   have hba : Below wr.heap.size wr (wr.alloc (.cells #[.int .i64 z] 2 (0, 0))) := (Below.refl _ _).alloc (Nat.le_refl _) _
                   have hrow := heap_alloc_new wr (.cells #[.int .i64 z] 2 (0, 0))
                   have hsz : (wr.alloc (.cells #[.int .i64 z] 2 (0, 0))).heap.size = wr.heap.size + 1 := by simp
                   have HBA := Lib.hid hba
                   have HSZ := Lib.hid hsz
                   refine wpList_put (K := intKind) rfl (.tmp 32) (.tmp 34) _ rfl Try.underlying98 info_int64 rfl w.heap.size (fun _ => False) _ L [.int .i64 z] z wr.heap.size _ _ _ rfl (HOWN.out.below hba) rfl hrow rfl (by have := HLM.out; unfold maxLen; omega) (by have := HLM.out; omega) (by have := HBL.out.size; omega) ?_
                   intro v3 w3 hown3 hb3 hg3 hv3
                   have hix3 : IntSl w3 (fun b => v3.ownBlock ≠ some b) (.slice (some ⟨gx, ox, none⟩) X.length cx) X := (HIX.out.below HBA.out).imp hg3.size (fun b h hlt e => by
                     rcases hv3 b e with h' | h'
                     · exact h h'
                     · omega) fun b h hlt => hg3.block b hlt fun e => h e.symm
                   have HOWN3 := Lib.hid hown3
                   have HB3 : Hid (Below w.heap.size w w3) := Lib.hid ((HBL.out.trans (HBA.out.mono HBL.out.size)).trans hb3)
                   have HIX3 := Lib.hid hix3
                   clear hown3 hb3 hg3 hv3 hba hrow hsz HBA HSZ hix3 y0))
              go_roundw
              case rel => exact ⟨j + 1, by omega, by go_num, by rw [HNXJ.out, HZ.out]; exact HOWN3.out, HB3.out, HIX3.out⟩
              case measure => simp [intOf]; omega
          · obtain rfl : j = X.length := by omega
            have hfu : rvL [] (ts.take (q + 1)) = (X.take X.length).foldl numL M := by rw [HNX.out, List.take_length]
            have HFU := Lib.hid hfu
            clear hfu
            go_wp2
            go_roundw
            case rel => exact ⟨q + 1, by omega, by go_num, by rw [HFU.out]; exact HOWN.out, HBL.out⟩
            case measure => simp [intOf]; omega
      · have hin : decide ((q : Int) < (ts.length : Int)) = false := by simp; omega
        obtain rfl : q = ts.length := by omega
        have hfull : rvT (.mk k n s ts) = rvL [] (ts.take ts.length) := by rw [HR.out, List.take_length]
        have HFL := Lib.hid hfull
        obtain ⟨qa, ca, rfl⟩ := own_int_form HOWN.out
        clear hfull
        go_wp2
        go_ret
        exact ⟨_, rfl, by rw [HFL.out]; exact (own_ints HOWN.out).imp (Nat.le_refl _) (fun b h _ => h.2) (fun _ _ _ => rfl), HBL.out⟩
end Go.Proofs.Ytoklbeogmcdgaaa.Tms
