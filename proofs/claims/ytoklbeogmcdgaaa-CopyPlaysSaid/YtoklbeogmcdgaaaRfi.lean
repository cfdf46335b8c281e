
/-
  The reference's told variables (a slice of pairs): find, has.
  The reference's solid and need.
  The reference's put.
  The reference's put of any term.
  The reference's Put.
-/
import Derived.Test.YtoklbeogmcdgaaaRfa
import Derived.Test.YtoklbeogmcdgaaaRmay
import Derived.Test.YtoklbeogmcdgaaaRvr
import Derived.Test.YtoklbeogmcdgaaaApi
namespace Go.Proofs.Ytoklbeogmcdgaaa.Tms
open Go Go.RowKit Go.Proofs.Ytoklbeogmcdgaaa.Reg Go.Proofs.Ytoklbeogmcdgaaa.Rws Go.Proofs.Ytoklbeogmcdgaaa.Maps
set_option linter.unusedVariables false
set_option linter.unusedSimpArgs false

def pairKind : Rws.Kind (Int × Int) where
  T := 69
  sz := 2
  R := fun w P cs c => cs = [.int .i64 c.1, .int .i64 c.2]
  pos := by decide
  len := by rintro w P cs a rfl; rfl
  one := by
    rintro w P cs a rfl v hv
    simp only [List.mem_cons, List.not_mem_nil, or_false] at hv
    rcases hv with rfl | rfl <;> rfl
  mono := by rintro w w' P P' cs a hP hw rfl; rfl
  lt := by rintro w P cs a rfl; rfl
theorem info_pair : (Try.prog.info? 69).map (fun i => (i.zero, i.size, i.bytes)) = some (some (.agg #[.int .i64 0, .int .i64 0]), 2, 16) := by kernel_rfl
abbrev Prs (w : World) (base : Nat) (v : Value) (L : List (Int × Int)) : Prop := Own pairKind w base (fun _ => False) v L
theorem Prs.at {w : World} {base n c : Nat} {q : Option Addr} {L : List (Int × Int)} (h : Prs w base (.slice q n c) L) (i : Nat) (hi : i < L.length) : ∃ g, q = some ⟨g, 0, none⟩ ∧ w.cell? ⟨g, i * 2, none⟩ = some (.int .i64 L[i].1) ∧ w.cell? ⟨g, i * 2 + 1, none⟩ = some (.int .i64 L[i].2) ∧ n = L.length ∧ n ≤ c ∧ c ≤ maxLen := by
  rcases Own.form h with ⟨-, e⟩ | ⟨g, cap, e⟩
  · rw [e] at hi; simp at hi
  · simp only [Value.slice.injEq] at e
    obtain ⟨rfl, rfl, rfl⟩ := e
    obtain ⟨cs, rfl, hc⟩ := Own.elem h rfl i hi
    obtain ⟨h1, h2⟩ := Own.caps h
    exact ⟨g, rfl, hc 0 (by decide), hc 1 (by decide), rfl, h1, h2⟩
theorem mget_skip {L : List (Int × Int)} {n : Int} : ∀ {i : Nat}, (∀ j (h : j < L.length), j < i → L[j].1 ≠ n) → i ≤ L.length → mget L n = mget (L.drop i) n
  | 0, _, _ => rfl
  | i + 1, h, hi => by
    rw [mget_skip (i := i) (fun j hj hji => h j hj (by omega)) (by omega), List.drop_eq_getElem_cons (by omega)]
    have := h i (by omega) (by omega)
    simp only [mget]
    rw [if_neg (Ne.symm this)]
theorem mget_here {L : List (Int × Int)} {n : Int} {i : Nat} (h : ∀ j (h : j < L.length), j < i → L[j].1 ≠ n) (hi : i < L.length) (he : L[i].1 = n) : mget L n = some L[i].2 := by
  rw [mget_skip h (by omega), List.drop_eq_getElem_cons hi]
  simp only [mget]
  rw [if_pos he.symm]
theorem mget_all {L : List (Int × Int)} {n : Int} (h : ∀ j (h : j < L.length), j < L.length → L[j].1 ≠ n) : mget L n = none := by
  rw [mget_skip (i := L.length) h (Nat.le_refl _), List.drop_length]
  rfl
def FdRel (L : List (Int × Int)) (n : Int) (w : World) (vi : Value) (wr : World) : Prop := ∃ i : Nat, i ≤ L.length ∧ vi = .int .i64 i ∧ (∀ j (h : j < L.length), j < i → L[j].1 ≠ n) ∧ Below w.heap.size w wr
set_option maxRecDepth 100000 in
set_option maxHeartbeats 4000000 in
theorem ref_find (w : World) (base : Nat) (v : Value) (L : List (Int × Int)) (n : Int) (h : Prs w base v L) (hL : L.length ≤ 1000000000) :
    Calls Try.prog 72 #[v, .int .i64 n] w fun e w' => e = .returned (.int .i64 ((mget L n).getD (-1))) ∧ Below w.heap.size w w' := by
  obtain ⟨q, c, rfl⟩ := own_form h
  have H := Lib.hid h
  have hst : FdRel L n w (.int .i64 ((0 : Nat) : Int)) w := ⟨0, by omega, rfl, fun j _ hj => by omega, Below.refl _ _⟩
  have HST := Lib.hid hst
  clear h hst
  go_enter Try.func72, Try.ntmps72
  go_wp2
  go_loopw [9] (fun vi wr => FdRel L n w vi wr) (fun vi _ => L.length - (intOf vi).toNat)
  case atStart => exact HST.out
  case round =>
    clear HST
    obtain ⟨i, hi, rfl, hno, hb⟩ := hrel
    have HNO := Lib.hid hno
    have HB := Lib.hid hb
    clear hno hb
    by_cases hil : i < L.length
    · have b1 : decide ((i : Int) < (L.length : Int)) = true := by simp; omega
      obtain ⟨g, rfl, x0, x1, -, hc1, -⟩ := Prs.at (Own.below H.out HB.out) i hil
      have hb1 := below_new wr (.cells #[.int .i64 L[i].1, .int .i64 L[i].2] 69 (0, 0))
      have hn1 := heap_alloc_new wr (.cells #[.int .i64 L[i].1, .int .i64 L[i].2] 69 (0, 0))
      have y0 : _ = some (Value.int .i64 L[i].1) := cell_of_row _ _ 0 _ _ _ hn1
      have y1 : _ = some (Value.int .i64 L[i].2) := cell_of_row _ _ 1 _ _ _ hn1
      have HB1 := Lib.hid (HB.out.trans (hb1.mono HB.out.size))
      clear hb1 hn1
      generalize hA : L[i].1 = a at *
      generalize hC : L[i].2 = d at *
      by_cases ha : a = n
      · have e1 : (a == n) = true := by simpa using ha
        have hm : mget L n = some d := by rw [← hC]; exact mget_here HNO.out hil (hA.trans ha)
        have HM := Lib.hid hm
        clear hA hC hm ha
        go_wp2
        go_ret
        exact ⟨by rw [HM.out]; rfl, HB1.out⟩
      · have e1 : (a == n) = false := by simpa using ha
        have hno' : ∀ j (h : j < L.length), j < i + 1 → L[j].1 ≠ n := fun j h hj => by
          by_cases e : j = i
          · subst e; rw [hA]; exact ha
          · exact HNO.out j h (by omega)
        have HNO' := Lib.hid hno'
        clear hno' hA hC ha
        go_wp2
        go_roundw
        case measure => simp [intOf]; omega
        case rel => exact ⟨i + 1, by omega, rfl, HNO'.out, HB1.out⟩
    · have b1 : decide ((i : Int) < (L.length : Int)) = false := by simp; omega
      have hm : mget L n = none := mget_all fun j hj _ => HNO.out j hj (by omega)
      have HM := Lib.hid hm
      clear hm
      go_wp2
      go_ret
      exact ⟨by rw [HM.out]; rfl, HB.out⟩
set_option maxRecDepth 100000 in
set_option maxHeartbeats 4000000 in
theorem ref_has (w : World) (base : Nat) (v : Value) (L : List (Int × Int)) (n : Int) (h : Prs w base v L) (hL : L.length ≤ 1000000000) :
    Calls Try.prog 73 #[v, .int .i64 n] w fun e w' => e = .returned (.bool (mget L n).isSome) ∧ Below w.heap.size w w' := by
  obtain ⟨q, c, rfl⟩ := own_form h
  have H := Lib.hid h
  have hst : FdRel L n w (.int .i64 ((0 : Nat) : Int)) w := ⟨0, by omega, rfl, fun j _ hj => by omega, Below.refl _ _⟩
  have HST := Lib.hid hst
  clear h hst
  go_enter Try.func73, Try.ntmps73
  go_wp2
  go_loopw [9] (fun vi wr => FdRel L n w vi wr) (fun vi _ => L.length - (intOf vi).toNat)
  case atStart => exact HST.out
  case round =>
    clear HST
    obtain ⟨i, hi, rfl, hno, hb⟩ := hrel
    have HNO := Lib.hid hno
    have HB := Lib.hid hb
    clear hno hb
    by_cases hil : i < L.length
    · have b1 : decide ((i : Int) < (L.length : Int)) = true := by simp; omega
      obtain ⟨g, rfl, x0, x1, -, hc1, -⟩ := Prs.at (Own.below H.out HB.out) i hil
      have hb1 := below_new wr (.cells #[.int .i64 L[i].1, .int .i64 L[i].2] 69 (0, 0))
      have hn1 := heap_alloc_new wr (.cells #[.int .i64 L[i].1, .int .i64 L[i].2] 69 (0, 0))
      have y0 : _ = some (Value.int .i64 L[i].1) := cell_of_row _ _ 0 _ _ _ hn1
      have y1 : _ = some (Value.int .i64 L[i].2) := cell_of_row _ _ 1 _ _ _ hn1
      have HB1 := Lib.hid (HB.out.trans (hb1.mono HB.out.size))
      clear hb1 hn1
      generalize hA : L[i].1 = a at *
      generalize hC : L[i].2 = d at *
      by_cases ha : a = n
      · have e1 : (a == n) = true := by simpa using ha
        have hm : mget L n = some d := by rw [← hC]; exact mget_here HNO.out hil (hA.trans ha)
        have HM := Lib.hid hm
        clear hA hC hm ha
        go_wp2
        go_ret
        exact ⟨by rw [HM.out]; rfl, HB1.out⟩
      · have e1 : (a == n) = false := by simpa using ha
        have hno' : ∀ j (h : j < L.length), j < i + 1 → L[j].1 ≠ n := fun j h hj => by
          by_cases e : j = i
          · subst e; rw [hA]; exact ha
          · exact HNO.out j h (by omega)
        have HNO' := Lib.hid hno'
        clear hno' hA hC ha
        go_wp2
        go_roundw
        case measure => simp [intOf]; omega
        case rel => exact ⟨i + 1, by omega, rfl, HNO'.out, HB1.out⟩
    · have b1 : decide ((i : Int) < (L.length : Int)) = false := by simp; omega
      have hm : mget L n = none := mget_all fun j hj _ => HNO.out j hj (by omega)
      have HM := Lib.hid hm
      clear hm
      go_wp2
      go_ret
      exact ⟨by rw [HM.out]; rfl, HB.out⟩
end Go.Proofs.Ytoklbeogmcdgaaa.Tms
namespace Go.Proofs.Ytoklbeogmcdgaaa.Tms
open Go Go.RowKit Go.Proofs.Ytoklbeogmcdgaaa.Reg Go.Proofs.Ytoklbeogmcdgaaa.Rws Go.Proofs.Ytoklbeogmcdgaaa.Maps
set_option linter.unusedVariables false
set_option linter.unusedSimpArgs false

mutual
/-- how many parts are no variables -/
def solT : Tm → Nat
  | .mk k _ _ a => if k = 1 then 0 else 1 + solL a
def solL : List Tm → Nat
  | [] => 0
  | t :: l => solT t + solL l
end
mutual
theorem sol_le : ∀ t : Tm, solT t ≤ t.size
  | .mk k _ _ a => by
    have := solL_le a
    unfold solT
    simp only [Tm.size]
    split <;> omega
theorem solL_le : ∀ l : List Tm, solL l ≤ sizeL l
  | [] => by simp [solL]
  | t :: l => by
    have := sol_le t
    have := solL_le l
    simp only [solL, sizeL]
    omega
end
theorem solL_succ : ∀ (l : List Tm) (j : Nat) (h : j < l.length), solL (l.take (j + 1)) = solL (l.take j) + solT l[j]
  | t :: l, 0, _ => by simp [solL]
  | t :: l, j + 1, h => by have := solL_succ l j (by simpa using h); simp only [List.take_succ_cons, solL, List.getElem_cons_succ]; omega
set_option maxHeartbeats 1600000 in
theorem ref_solid (N : Nat) : ∀ (t : Tm) (v : Value) (P : Nat → Prop) (w : World), t.size ≤ N → t.size ≤ 1000000000 → IsTm w P v t →
    Calls Try.prog 104 #[v] w fun e w' => e = .returned (.int .i64 (solT t)) ∧ Below w.heap.size w w' := by
  induction N with
  | zero => intro t v P w hN; have := size_pos t; omega
  | succ N ih =>
    intro t v P w hN hM h
    have IH := Lib.hid ih
    clear ih
    obtain ⟨a, c, rfl⟩ := h.form
    by_cases k1 : t.k = 1
    · have e1 : (t.k == 1) = true := by simpa using k1
      have hsl : solT t = 0 := by obtain ⟨k, n, s, a⟩ := t; simp only [Tm.k] at k1; simp [solT, k1]
      have HB := Lib.hid (below_new w (.cells #[.int .i64 t.k, .int .i64 t.n, .string t.s, .slice a t.args.length c] 33 (0, 0)))
      have HSL := Lib.hid hsl
      have hr := heap_alloc_new w (.cells #[.int .i64 t.k, .int .i64 t.n, .string t.s, .slice a t.args.length c] 33 (0, 0))
      obtain ⟨x0, x1, x2, x3⟩ := row4 hr
      clear h k1 hsl IH hr
      go_enter Try.func104, Try.ntmps104
      go_wp2
      go_ret
      exact ⟨by rw [HSL.out]; rfl, HB.out⟩
    have e1 : (t.k == 1) = false := by simpa using k1
    have hso : solT t = 1 + solL t.args := by obtain ⟨k, n, s, a⟩ := t; simp only [Tm.k] at k1; simp [solT, k1, Tm.args]
    have HSO := Lib.hid hso
    clear k1 hso
    have hs := h.args
    have hsz : sizeL t.args + 1 = t.size := by obtain ⟨k1, n1, s1, a1⟩ := t; simp [Tm.size, Tm.args]
    have hdz := solL_le t.args
    have hlen : t.args.length ≤ 1000000000 := by have := len_le t.args; omega
    have hb := (Below.refl w.heap.size w).alloc (Nat.le_refl _) (.cells #[.int .i64 t.k, .int .i64 t.n, .string t.s, .slice a t.args.length c] 33 (0, 0))
    have hw : (w.alloc (.cells #[.int .i64 t.k, .int .i64 t.n, .string t.s, .slice a t.args.length c] 33 (0, 0))).heap.size = w.heap.size + 1 := by simp
    have S1 := Lib.hid hs
    have HB := Lib.hid hb
    have HW := Lib.hid hw
    have HSZ := Lib.hid hsz
    have HDZ := Lib.hid hdz
    clear hs hb hsz hdz h hw
    go_enter Try.func104, Try.ntmps104
    go_wp2
    generalize w.alloc (.cells #[.int .i64 t.k, .int .i64 t.n, .string t.s, .slice a t.args.length c] 33 (0, 0)) = W at *
    have hst : ∃ q : Nat, q ≤ t.args.length ∧ (.int .i64 1 : Value) = .int .i64 (1 + (solL (t.args.take q) : Nat)) ∧ (.int .i64 0 : Value) = .int .i64 q ∧ Below W.heap.size W W := ⟨0, by omega, by simp [solL], rfl, Below.refl _ _⟩
    have HST := Lib.hid hst
    clear hst
    go_loopw [3, 12] (fun n c wr => ∃ q : Nat, q ≤ t.args.length ∧ n = .int .i64 (1 + (solL (t.args.take q) : Nat)) ∧ c = .int .i64 q ∧ Below W.heap.size W wr) (fun _ c _ => t.args.length - (intOf c).toNat)
    case atStart => exact HST.out
    case round =>
      obtain ⟨q, hq, rfl, rfl, hbl⟩ := hrel
      clear HST
      by_cases hql : q < t.args.length
      · have hbl0 : Below w.heap.size w wr := HB.out.trans (hbl.mono HB.out.size)
        obtain ⟨g1, o1, rfl, p1, m1⟩ := (S1.out.below hbl0).at q hql
        obtain ⟨c1, d1, x10, x11, x12, x13, i1, l1⟩ := m1.read
        have hin : (q : Int) < (t.args.length : Int) := by omega
        have hin0 : (0 : Int) ≤ (q : Int) := by omega
        have hq1 := size_mem hql
        have hq2 := sizeL_succ' t.args q hql
        have hq3 := solL_succ t.args q hql
        have hq4 := sizeL_le_take t.args (q + 1)
        have hq5 := solL_le (t.args.take q)
        have hq6 := sol_le t.args[q]
        have HQ1 := Lib.hid hq1
        have HQ2 := Lib.hid hq2
        have HQ3 := Lib.hid hq3
        have hsz := HSZ.out
        have hdz := HDZ.out
        have hbd : (1 : Int) + (solL (t.args.take q) : Int) + (solT t.args[q] : Int) ≤ 2000000000 := by omega
        clear hq1 hq2 hq3 m1
        generalize t.args[q] = x at *
        have hba := (Below.refl wr.heap.size wr).alloc (Nat.le_refl _) (.cells #[.int .i64 x.k, .int .i64 x.n, .string x.s, .slice c1 x.args.length d1] 33 (0, 0))
        have hwa : (wr.alloc (.cells #[.int .i64 x.k, .int .i64 x.n, .string x.s, .slice c1 x.args.length d1] 33 (0, 0))).heap.size = wr.heap.size + 1 := by simp
        have HBA := Lib.hid hba
        have HWA := Lib.hid hwa
        have I1 := Lib.hid i1
        have HBL := Lib.hid hbl
        clear hba hwa i1 hbl hbl0
        go_wp2_with (refine (IH.out x _ _ _ (by have := HQ1.out; omega) (by have := HQ1.out; omega) (I1.out.below HBA.out)).mono ?_; rintro e9 w9 ⟨rfl, hb9⟩; have HB9 := Lib.hid (HBL.out.trans ((HBA.out.trans (hb9.mono (by have := HWA.out; omega))).mono HBL.out.size)); clear hb9)
        go_roundw
        case rel => exact ⟨q + 1, by omega, by first | (simp; have := HQ2.out; have := HQ3.out; omega) | (have h2 := HQ2.out; have h3 := HQ3.out; congr 1; omega), by go_num, HB9.out⟩
        case measure => simp [intOf]; omega
      · have hqe : q = t.args.length := by omega
        subst hqe
        have hfin : Below w.heap.size w wr := HB.out.trans (hbl.mono HB.out.size)
        have HF := Lib.hid hfin
        have hsz := HSZ.out
        have hdz := HDZ.out
        clear hbl hfin
        rw [List.take_length]
        go_wp2
        go_ret
        exact ⟨by rw [HSO.out]; simp, HF.out⟩
/-- how many cells a term takes, as the reference counts -/
def newR (L : List (Int × Int)) (l : List Int) : Nat := (l.filter fun v => decide ((mget L v).getD (-1) < 0)).length
def needR (L : List (Int × Int)) (t : Tm) : Nat := newR L (rvT t) + solT t
theorem newR_le (L : List (Int × Int)) (l : List Int) : newR L l ≤ l.length := List.length_filter_le ..
theorem newR_succ (L : List (Int × Int)) (l : List Int) (i : Nat) (h : i < l.length) : newR L (l.take (i + 1)) = newR L (l.take i) + if (mget L l[i]).getD (-1) < 0 then 1 else 0 := by
  unfold newR
  rw [List.take_succ_eq_append_getElem h, List.filter_append, List.length_append]
  congr 1
  by_cases e : (mget L l[i]).getD (-1) < 0 <;> simp [e]
def NdRel (L : List (Int × Int)) (l : List Int) (w : World) (vn vi : Value) (wr : World) : Prop := ∃ i : Nat, i ≤ l.length ∧ vn = .int .i64 (newR L (l.take i) : Nat) ∧ vi = .int .i64 i ∧ Below w.heap.size w wr
set_option maxRecDepth 100000 in
set_option maxHeartbeats 4000000 in
theorem ref_need (w : World) (base : Nat) (v : Value) (L : List (Int × Int)) (h : Prs w base v L) (hL : L.length ≤ 1000000000) {t : Tm} {tv : Value} {P : Nat → Prop} (ht : IsTm w P tv t) (hs : t.size ≤ 1000000) (hvl : (rvT t).length ≤ 1000000) :
    Calls Try.prog 74 #[tv, v] w fun e w' => e = .returned (.int .i64 (needR L t : Nat)) ∧ Below w.heap.size w w' := by
  obtain ⟨q, c, rfl⟩ := own_form h
  obtain ⟨a, k, rfl⟩ := ht.form
  have hb := below_new w (.cells #[.int .i64 t.k, .int .i64 t.n, .string t.s, .slice a t.args.length k] 33 (0, 0))
  have hr := heap_alloc_new w (.cells #[.int .i64 t.k, .int .i64 t.n, .string t.s, .slice a t.args.length k] 33 (0, 0))
  have H := Lib.hid (Own.below h hb)
  have HT := Lib.hid (ht.below hb)
  have HB := Lib.hid hb
  have HR := Lib.hid hr
  have hsl := sol_le t
  obtain ⟨x0, x1, x2, x3⟩ := row4 hr
  clear h ht hb hr
  go_enter Try.func74, Try.ntmps74
  go_upto_region 2 with fail
  generalize w.alloc (.cells #[.int .i64 t.k, .int .i64 t.n, .string t.s, .slice a t.args.length k] 33 (0, 0)) = w1 at *
  go_wp2_with fail
  refine (ref_vars _ t _ _ _ (Nat.le_refl _) (by omega) HT.out).mono ?_
  rintro e2 w2 ⟨v2, rfl, hi2, hb2⟩
  obtain ⟨q2, c2, rfl⟩ := hi2.form
  have HI2 := Lib.hid hi2
  have HT2 := Lib.hid (HT.out.below hb2)
  have H2 := Lib.hid (Own.below H.out hb2)
  have HR2 := Lib.hid ((hb2.block _ (Array.getElem?_eq_some_iff.1 HR.out).1).trans HR.out)
  have HB2 := Lib.hid (HB.out.trans (hb2.mono HB.out.size))
  have hst : NdRel L (rvT t) w2 (.int .i64 0) (.int .i64 ((0 : Nat) : Int)) w2 := ⟨0, by omega, by simp [newR], rfl, Below.refl _ _⟩
  have HST := Lib.hid hst
  clear hst hi2 hb2 HT H HR HB x0 x1 x2 x3
  obtain ⟨l, hl⟩ : ∃ l, l = rvT t := ⟨_, rfl⟩
  rw [← hl] at HI2 HST hvl ⊢
  have HLV := Lib.hid hl
  clear hl
  go_wp2
  go_loopw [5, 11] (fun v5 v11 wr => NdRel L l w2 v5 v11 wr) (fun _ v11 _ => l.length - (intOf v11).toNat)
  case atStart => exact HST.out
  case round =>
    clear HST
    obtain ⟨i, hi, rfl, rfl, hbr⟩ := hrel
    have HBR := Lib.hid hbr
    clear hbr
    have hnl := newR_le L (l.take i)
    rw [List.length_take] at hnl
    by_cases hil : i < l.length
    · have b1 : decide ((i : Int) < (l.length : Int)) = true := by simp; omega
      obtain ⟨b, off, rfl, hc⟩ := ints_pickA (IntSl.move (P' := fun b => w1.heap.size ≤ b) HI2.out (fun b hb _ => hb) fun b _ hlt => HBR.out.block b hlt) i hil
      have hsu := newR_succ L l i hil
      obtain ⟨y, hy⟩ : ∃ y, y = l[i] := ⟨_, rfl⟩
      rw [← hy] at hc hsu
      have HSU := Lib.hid hsu
      have hrm := ints_roomA HI2.out
      clear hy hsu
      go_wp2_with fail
      refine (ref_find _ _ _ L y (Own.below H2.out HBR.out) hL).mono ?_
      rintro e3 w3 ⟨rfl, hb3⟩
      have HB3 := Lib.hid (HBR.out.trans (hb3.mono HBR.out.size))
      clear hb3
      by_cases hf : (mget L y).getD (-1) < 0
      · have b2 : decide ((mget L y).getD (-1) < 0) = true := by simpa using hf
        have hn2 : newR L (l.take (i + 1)) = newR L (l.take i) + 1 := by rw [HSU.out, if_pos hf]
        have HN2 := Lib.hid hn2
        clear hf hn2
        go_wp2
        go_roundw
        case measure => simp [intOf]; omega
        case rel => exact ⟨i + 1, by omega, by rw [HN2.out]; rfl, rfl, HB3.out⟩
      · have b2 : decide ((mget L y).getD (-1) < 0) = false := by simpa using hf
        have hn2 : newR L (l.take (i + 1)) = newR L (l.take i) := by rw [HSU.out, if_neg hf]; rfl
        have HN2 := Lib.hid hn2
        clear hf hn2
        go_wp2
        go_roundw
        case measure => simp [intOf]; omega
        case rel => exact ⟨i + 1, by omega, by rw [HN2.out], rfl, HB3.out⟩
    · have b1 : decide ((i : Int) < (l.length : Int)) = false := by simp; omega
      have e : i = l.length := by omega
      subst e
      rw [List.take_length]
      rw [List.take_length] at hnl
      obtain ⟨x0, x1, x2, x3⟩ := row4 ((HBR.out.block _ (Array.getElem?_eq_some_iff.1 HR2.out).1).trans HR2.out)
      go_wp2_with fail
      refine (ref_solid _ t _ _ _ (Nat.le_refl _) (by omega) (HT2.out.below HBR.out)).mono ?_
      rintro e3 w3 ⟨rfl, hb3⟩
      have HB3 := Lib.hid (HB2.out.trans ((HBR.out.trans (hb3.mono HBR.out.size)).mono HB2.out.size))
      clear hb3
      have hnd : needR L t = newR L l + solT t := by rw [HLV.out]; rfl
      have HND := Lib.hid hnd
      clear hnd
      go_wp2
      go_ret
      exact ⟨by rw [HND.out]; simp, HB3.out⟩
end Go.Proofs.Ytoklbeogmcdgaaa.Tms
namespace Go.Proofs.Ytoklbeogmcdgaaa.Tms
open Go Go.RowKit Go.Proofs.Ytoklbeogmcdgaaa.Reg Go.Proofs.Ytoklbeogmcdgaaa.Rws Go.Proofs.Ytoklbeogmcdgaaa.Maps
set_option linter.unusedVariables false
set_option linter.unusedSimpArgs false

theorem putT_non {told : Int → Option Int} {T0 : Int} {b : Nat} {F : List (Int × Int)} {t : Tm} (h : mayT t = true) (h1 : t.k ≠ 1) :
    putT told T0 b F t = ((b : Int), ⟨t.k, t.n, t.s, (putL told T0 (b + 1) F t.args).1, -1, T0⟩ :: (putL told T0 (b + 1) F t.args).2.1, (putL told T0 (b + 1) F t.args).2.2) := by
  by_cases h4 : t.k = 4
  · rw [putT_comp h4, h4, may_n0 h h4]
  · rw [putT_leaf h1 h4, may_leaf h h1 h4]
    rfl
theorem RefRow.setArgs {w : World} {D : Nat → Prop} {p : Nat} {S : Sto} {bv av : Value} {A : Nat → Prop} {g cap : Nat} (h : RefRow w D p S (.slice (some ⟨g, 0, none⟩) S.cells.length cap) bv A) (v : Nat) (hv : v < S.cells.length) (c : SCell) (hc : S.cells[v] = c) {L : List Int}
    (ha : IntSl w (fun b => av.ownBlock = some b) av L) (hd : ∀ k, av.ownBlock = some k → ¬ D k ∧ k < w.heap.size) :
    RefRow (w.setCell ⟨g, v * 5 + 3, none⟩ av) (fun b => D b ∨ av.ownBlock = some b) p ⟨S.room, S.cells.set v { c with args := L }, S.bonds⟩ (.slice (some ⟨g, 0, none⟩) S.cells.length cap) bv (fun b => A b ∨ av.ownBlock = some b) := by
  have hp : p ≠ g := fun e => h.pc (by rw [e]; rfl)
  have hg : D g := h.dc g rfl
  have hb : ∀ k, bv.ownBlock = some k → k ≠ g := fun k hk e => h.ne g rfl (by rw [← e]; exact hk)
  have hw := Own.mono (P' := fun b => A b ∨ av.ownBlock = some b) h.own fun b hb _ => .inl hb
  have hs := hw.stored rfl v hv 3 (by decide) av { c with args := L } (by
    rintro cs ⟨av0, rfl, hav⟩
    rw [hc]
    exact ⟨av, rfl, ha.move (fun b hb hlt => ⟨.inr hb, fun e => by
      have e' : g = b := by simpa [Value.ownBlock] using e
      exact (hd b hb).1 (e' ▸ hg), hlt⟩) fun _ _ _ => rfl⟩)
  refine ⟨(Below.heap_setCell _ _ _ _ hp).trans h.row, ?_, h.bonds.keep (by simp [World.setCell]) fun b hlt hq => ?_, h.ne, h.pc, h.pb, fun e => ?_, fun k e e' => ?_, .inl h.dp, fun k e => .inl (h.dc k e), fun k e => .inl (h.db k e), fun b hb => hb.imp (h.da b) id, fun b hb => ?_⟩
  · exact hs
  · rcases hq with hq | hq
    · exact hq.elim
    · exact Below.heap_setCell _ _ _ _ (hb b hq)
  · rcases e with e | e
    · exact h.ap e
    · exact (hd p e).1 h.dp
  · rcases e' with e' | e'
    · exact h.ab k e e'
    · exact (hd k e').1 (h.db k e)
  · have hz : (w.setCell ⟨g, v * 5 + 3, none⟩ av).heap.size = w.heap.size := by simp [World.setCell]
    rcases hb with hb | hb
    · have := h.dl b hb; omega
    · have := (hd b hb).2; omega
theorem RefAt.newTop {w : World} {D : Nat → Prop} {p : Nat} {S S' : Sto} (h : RefAt w D p S) (hr : S'.room = S.room) (hb : S'.bonds = S.bonds) (hlen : S'.cells.length = S.cells.length) (hl : ∀ (P : Nat → Prop) (xss : List (List Value)), Each rcKind w P xss S.cells → Each rcKind w P xss S'.cells) : RefAt w D p S' := by
  obtain ⟨cv, bv, A, h⟩ := h
  have := h.newTop S'.cells hl hlen
  obtain ⟨r, c, b⟩ := S'
  simp only at hr hb
  subst hr
  subst hb
  exact ⟨cv, bv, A, this⟩
theorem each_top {w : World} {P : Nat → Prop} (c d : SCell) (h1 : d.k = c.k) (h2 : d.n = c.n) (h3 : d.s = c.s) (h4 : d.args = c.args) (h5 : d.lk = c.lk) : ∀ (l : List SCell) (xss : List (List Value)), Each rcKind w P xss (l ++ [c]) → Each rcKind w P xss (l ++ [d])
  | [], [xs], h => by
    obtain ⟨⟨av, e, hav⟩, h'⟩ := h
    exact ⟨⟨av, by rw [h1, h2, h3, h5]; exact e, by rw [h4]; exact hav⟩, h'⟩
  | [], [], h => h.elim
  | [], _ :: _ :: _, h => h.2.elim
  | x :: l, [], h => h.elim
  | x :: l, xs :: xss, h => ⟨h.1, each_top c d h1 h2 h3 h4 h5 l xss h.2⟩
/-- what the reference's put leaves -/
structure RpDid (w : World) (D : Nat → Prop) (p base : Nat) (S' : Sto) (L' : List (Int × Int)) (v v' : Value) (D' : Nat → Prop) (w' : World) : Prop where
  ref : RefAt w' D' p S'
  prs : Prs w' base v' L'
  kp : Keeps w w' (fun b => D b ∨ v.ownBlock = some b)
  dn : ∀ b, D' b → D b ∨ (w.heap.size ≤ b ∧ b < w'.heap.size)
  vo : ∀ k, v'.ownBlock = some k → v.ownBlock = some k ∨ w.heap.size ≤ k
  vd : ∀ k, v'.ownBlock = some k → ¬ D' k
def RpPost (w : World) (D : Nat → Prop) (p base : Nat) (S : Sto) (v : Value) (r : Int × List SCell × List (Int × Int)) (e : Ending) (w' : World) : Prop :=
  ∃ v' D', e = .returned (.tuple #[.int .i64 r.1, v']) ∧ RpDid w D p base ⟨S.room, S.cells ++ r.2.1, S.bonds⟩ r.2.2 v v' D' w'
set_option maxRecDepth 100000 in
set_option maxHeartbeats 4000000 in
theorem ref_put_var (T0 : Int) {S : Sto} {D : Nat → Prop} {p base : Nat} {L : List (Int × Int)} {v : Value} (t : Tm) (k1 : t.k = 1) {tv : Value} {P : Nat → Prop} {w : World} (hS : RefAt w D p S) (hL : Prs w base v L) (hvd : ∀ k, v.ownBlock = some k → ¬ D k) (hbs : base ≤ w.heap.size) (hL0 : ∀ n a, mget L n = some a → 0 ≤ a) (hLl : L.length ≤ 1000000) (ht : IsTm w P tv t)
    (hlen : S.cells.length ≤ 20000000) (hroom : ((S.cells.length + (putT (fun _ => none) T0 S.cells.length L t).2.1.length : Nat) : Int) ≤ S.room) :
    Calls Try.prog 75 #[.pointer (some ⟨p, 0, none⟩), tv, v] w (RpPost w D p base S v (putT (fun _ => none) T0 S.cells.length L t)) := by
  obtain ⟨q, c, rfl⟩ := own_form hL
  obtain ⟨a, k, rfl⟩ := ht.form
  rw [k1] at ht ⊢
  obtain ⟨n, hn⟩ : ∃ n, n = t.n := ⟨_, rfl⟩
  have hp := putT_var (told := fun _ => none) (T0 := T0) (b := S.cells.length) (F := L) k1
  rw [← hn] at hp
  rw [hp] at hroom ⊢
  rw [← hn] at ht ⊢
  have hb := below_new w (.cells #[.int .i64 1, .int .i64 n, .string t.s, .slice a t.args.length k] 33 (0, 0))
  have hr := heap_alloc_new w (.cells #[.int .i64 1, .int .i64 n, .string t.s, .slice a t.args.length k] 33 (0, 0))
  have HS := Lib.hid hS
  have HS1 := Lib.hid (hS.below hb)
  have HL := Lib.hid hL
  have HL1 := Lib.hid (Own.below hL hb)
  have HB := Lib.hid hb
  have HR := Lib.hid hr
  have HVD := Lib.hid hvd
  have HL0 := Lib.hid hL0
  have hdlt : ∀ b, D b → b < w.heap.size := by obtain ⟨cv, bv, A, h⟩ := hS; exact h.dl
  have HDLT := Lib.hid hdlt
  have HLW := Lib.hid (show ∀ k, (Value.slice q L.length c).ownBlock = some k → k < w.heap.size from fun k e => (hL.low k e).2)
  obtain ⟨x0, x1, x2, x3⟩ := row4 hr
  clear hS hL hb hvd ht hp hr hL0 hn hdlt
  cases hm : mget L n with
  | some at_ =>
    rw [hm] at hroom
    have h0 := HL0.out n at_ hm
    have b1 : decide (0 ≤ at_) = true := by simpa using h0
    have HM := Lib.hid hm
    clear hm
    go_enter Try.func75, Try.ntmps75
    go_upto_region 2 with fail
    generalize w.alloc (.cells #[.int .i64 1, .int .i64 n, .string t.s, .slice a t.args.length k] 33 (0, 0)) = w1 at *
    go_wp2_with fail
    refine (ref_find _ _ _ L n HL1.out (by omega)).mono ?_
    rintro e2 w2 ⟨rfl, hb2⟩
    rw [HM.out]
    have hb02 := HB.out.trans (hb2.mono HB.out.size)
    have hfin : RpDid w D p base ⟨S.room, S.cells ++ [], S.bonds⟩ L (.slice q L.length c) (.slice q L.length c) D w2 := by
      rw [List.append_nil]
      exact ⟨HS.out.below hb02, Own.below HL.out hb02, (Keeps.of hb02), fun b hb => .inl hb, fun k e => .inl e, HVD.out⟩
    have HF := Lib.hid hfin
    clear hfin hb02 hb2 x0 x1 x2 x3
    go_wp2
    go_ret2
    exact ⟨_, D, rfl, HF.out⟩
  | none =>
    rw [hm] at hroom
    simp only [List.length_cons, List.length_nil] at hroom
    have HM := Lib.hid hm
    clear hm
    go_enter Try.func75, Try.ntmps75
    go_upto_region 2 with fail
    generalize w.alloc (.cells #[.int .i64 1, .int .i64 n, .string t.s, .slice a t.args.length k] 33 (0, 0)) = w1 at *
    go_wp2_with fail
    refine (ref_find _ _ _ L n HL1.out (by omega)).mono ?_
    rintro e2 w2 ⟨rfl, hb2⟩
    rw [HM.out]
    have hb02 := HB.out.trans (hb2.mono HB.out.size)
    have HS2 := Lib.hid (HS.out.below hb02)
    have HL2 := Lib.hid (Own.below HL.out hb02)
    have HB2 := Lib.hid hb02
    have HR2 := Lib.hid ((hb2.block _ (Array.getElem?_eq_some_iff.1 HR.out).1).trans HR.out)
    clear hb02 hb2 x0 x1 x2 x3 HS1 HL1 HB HS HL HR
    dsimp only
    go_wp2_with fail
    refine (ref_Fresh _ HS2.out hlen (by omega)).mono ?_
    rintro e3 w3 ⟨rfl, D3, h3, k3, n3⟩
    have hdl : ∀ b, D b → b < w.heap.size := HDLT.out
    have hkl : ∀ b, b < w2.heap.size → ¬ D b → w3.heap[b]? = w2.heap[b]? := k3.block
    have hr3 := (hkl w.heap.size (Array.getElem?_eq_some_iff.1 HR2.out).1 fun e => by have := hdl _ e; omega).trans HR2.out
    have hl3 : Prs w3 base (.slice q L.length c) L := HL2.out.keep k3.size fun b hb he => hkl b hb fun e => by
      rcases he with he | he
      · exact he
      · exact HVD.out b he e
    have hz2 := HB2.out.size
    have hz3 := k3.size
    obtain ⟨y0, y1, y2, y3⟩ := row4 hr3
    have hb4 := below_new w3 (.cells #[.int .i64 n, .int .i64 (S.cells.length : Int)] 69 (0, 0))
    have HNA := Lib.hid (heap_alloc_new w3 (.cells #[.int .i64 n, .int .i64 (S.cells.length : Int)] 69 (0, 0)))
    have HL4 := Lib.hid (Own.below hl3 hb4)
    have HB4 := Lib.hid hb4
    have H3 := Lib.hid h3
    have K3 := Lib.hid k3
    have N3 := Lib.hid n3
    have hz4 : (w3.alloc (.cells #[.int .i64 n, .int .i64 (S.cells.length : Int)] 69 (0, 0))).heap.size = w3.heap.size + 1 := by simp
    clear hb4 h3 k3 n3 hl3 hr3 hkl HR2 HS2 HL2
    dsimp only
    go_wp2_with (with_reducible show wpList _ _ _ (⟨some 40, _, _, _, _, _⟩ :: _) _ _
                 refine wpList_put (K := pairKind) rfl (.tmp 34) (.tmp 39) _ rfl Try.underlying60 info_pair rfl base (fun _ => False) (.slice q L.length c) L [.int .i64 n, .int .i64 (S.cells.length : Int)] (n, (S.cells.length : Int)) _ _ _ _ rfl HL4.out rfl HNA.out rfl (by unfold maxLen; omega) (by omega) (by omega) ?_
                 intro v5 w5 ho5 hb5 hg5 hv5
                 obtain ⟨q5, c5, rfl⟩ : ∃ q5 c5, v5 = .slice q5 (L.length + 1) c5 := by
                   obtain ⟨q', c', e'⟩ := own_form ho5
                   exact ⟨q', c', by rw [e']; simp⟩
                 have HO5 := Lib.hid ho5
                 have HG5 := Lib.hid hg5
                 have HV5 := Lib.hid hv5
                 clear ho5 hb5 hg5 hv5 y0 y1 y2 y3)
    go_ret2
    have hz5 := HG5.out.size
    refine ⟨.slice q5 (L.length + 1) c5, D3, rfl, ?_, HO5.out, ?_, fun b hb => ?_, fun k e => ?_, fun k e hd => ?_⟩
    · have h5 := H3.out.keep (w' := w5) (by omega) fun b hb hd => (HG5.out.block b (by omega) fun e => by
        have hlt := (HL4.out.low b e.symm)
        rcases N3.out b hd with h | h
        · exact HVD.out b e.symm h
        · have := HLW.out b e.symm
          omega).trans (HB4.out.block b hb)
      exact h5.newTop rfl rfl (by show (S.cells ++ [_]).length = (S.cells ++ [_]).length; simp) fun P xss hx => each_top ⟨1, 0, ⟨#[]⟩, [], -1, lastTop S.cells⟩ ⟨1, 0, ⟨#[]⟩, [], -1, T0⟩ rfl rfl rfl rfl rfl S.cells xss hx
    · refine ⟨HG5.out.os.trans (HB4.out.os.trans (K3.out.os.trans HB2.out.os)), HG5.out.tape.trans (HB4.out.tape.trans (K3.out.tape.trans HB2.out.tape)), HG5.out.output.trans (HB4.out.output.trans (K3.out.output.trans HB2.out.output)), by omega, fun b hb hn => ?_⟩
      exact (HG5.out.block b (by omega) fun e => hn (.inr e.symm)).trans ((HB4.out.block b (by omega)).trans ((K3.out.block b (by omega) fun e => hn (.inl e)).trans (HB2.out.block b hb)))
    · rcases N3.out b hb with h | h
      · exact .inl h
      · exact .inr ⟨by omega, by omega⟩
    · rcases HV5.out k e with h | h
      · exact .inl h
      · exact .inr (by omega)
    · rcases HV5.out k e with h | h
      · rcases N3.out k hd with h' | h'
        · exact HVD.out k h h'
        · have := HLW.out k h
          omega
      · rcases N3.out k hd with h' | h'
        · have := hdl k h'; omega
        · omega
end Go.Proofs.Ytoklbeogmcdgaaa.Tms
namespace Go.Proofs.Ytoklbeogmcdgaaa.Tms
open Go Go.RowKit Go.Proofs.Ytoklbeogmcdgaaa.Reg Go.Proofs.Ytoklbeogmcdgaaa.Rws Go.Proofs.Ytoklbeogmcdgaaa.Maps
set_option linter.unusedVariables false
set_option linter.unusedSimpArgs false

theorem putL_take_len {told : Int → Option Int} {T0 : Int} : ∀ (l : List Tm) (b : Nat) (F : List (Int × Int)) (i : Nat), (putL told T0 b F (l.take i)).2.1.length ≤ (putL told T0 b F l).2.1.length
  | [], b, F, i => by simp
  | t :: l, b, F, 0 => by simp [putL]
  | t :: l, b, F, i + 1 => by
    have := putL_take_len (told := told) (T0 := T0) l (b + (putT told T0 b F t).2.1.length) (putT told T0 b F t).2.2 i
    simp only [List.take_succ_cons, putL, List.length_append]
    omega
mutual
theorem putF_len {told : Int → Option Int} {T0 : Int} : ∀ (t : Tm) (b : Nat) (F : List (Int × Int)), (putT told T0 b F t).2.2.length ≤ F.length + t.size
  | .mk k n s a, b, F => by
    by_cases k1 : k = 1
    · rw [putT_var (t := .mk k n s a) k1]
      have := size_pos (.mk k n s a)
      cases told (Tm.mk k n s a).n with
      | some x => simp only; omega
      | none =>
        cases mget F (Tm.mk k n s a).n with
        | some x => simp only; omega
        | none => simp only [List.length_append, List.length_cons, List.length_nil]; omega
    · by_cases k4 : k = 4
      · rw [putT_comp (t := .mk k n s a) k4]
        have := putF_lenL (told := told) (T0 := T0) a (b + 1) F
        simp only [Tm.args, Tm.size]
        omega
      · rw [putT_leaf (t := .mk k n s a) k1 k4]
        simp only
        omega
theorem putF_lenL {told : Int → Option Int} {T0 : Int} : ∀ (l : List Tm) (b : Nat) (F : List (Int × Int)), (putL told T0 b F l).2.2.length ≤ F.length + sizeL l
  | [], b, F => by simp [putL]
  | t :: l, b, F => by
    have h1 := putF_len (told := told) (T0 := T0) t b F
    have h2 := putF_lenL (told := told) (T0 := T0) l (b + (putT told T0 b F t).2.1.length) (putT told T0 b F t).2.2
    simp only [putL, sizeL]
    omega
end
theorem putL_nn {told : Int → Option Int} {T0 : Int} {l : List Tm} {b : Nat} {F : List (Int × Int)} (h : ∀ p ∈ F, 0 ≤ p.2) : ∀ p ∈ (putL told T0 b F l).2.2, 0 ≤ p.2 := fun p hp => by
  rcases put_newL l b F p hp with h1 | ⟨i, d, -, h2, -⟩
  · exact h p h1
  · rw [h2]; omega
/-- so many Args are put -/
structure RpAt (w : World) (D : Nat → Prop) (p base : Nat) (S : Sto) (T0 : Int) (t : Tm) (L : List (Int × Int)) (v : Value) (i : Nat) (v2 av : Value) (D' : Nat → Prop) (wr : World) : Prop where
  le : i ≤ t.args.length
  did : RpDid w D p base ⟨S.room, S.cells ++ ⟨t.k, t.n, t.s, [], -1, T0⟩ :: (putL (fun _ => none) T0 (S.cells.length + 1) L (t.args.take i)).2.1, S.bonds⟩ (putL (fun _ => none) T0 (S.cells.length + 1) L (t.args.take i)).2.2 v v2 D' wr
  own : Own iKind wr w.heap.size (fun _ => False) av (putL (fun _ => none) T0 (S.cells.length + 1) L (t.args.take i)).1
  ad : ∀ k, av.ownBlock = some k → ¬ D' k ∧ v2.ownBlock ≠ some k
def RpRel (w : World) (D : Nat → Prop) (p base : Nat) (S : Sto) (T0 : Int) (t : Tm) (L : List (Int × Int)) (v : Value) (v2 av vi : Value) (wr : World) : Prop := ∃ (i : Nat) (D' : Nat → Prop), vi = .int .i64 i ∧ RpAt w D p base S T0 t L v i v2 av D' wr
theorem mayTL_memR : ∀ {l : List Tm}, mayTL l = true → ∀ t ∈ l, mayT t = true
  | [], _, t, h => by simp at h
  | x :: l, h, t, ht => by
    simp only [mayTL, Bool.and_eq_true] at h
    rcases List.mem_cons.1 ht with rfl | ht
    · exact h.1
    · exact mayTL_memR h.2 t ht
theorem putL_fst {told : Int → Option Int} {T0 : Int} : ∀ (l : List Tm) (b : Nat) (F : List (Int × Int)), (putL told T0 b F l).1.length = l.length
  | [], b, F => by simp [putL]
  | t :: l, b, F => by simp [putL, putL_fst l]
section
variable {w wr u w3 w4 w5 : World} {D D' D3 : Nat → Prop} {p base : Nat} {S : Sto} {T0 : Int} {t : Tm} {L : List (Int × Int)} {v v2 v3 av av' : Value} {i : Nat}
/-- the Args' own row, through the next one's put -/
theorem RpAt.own3 {S' : Sto} {L' : List (Int × Int)} (h : RpAt w D p base S T0 t L v i v2 av D' wr) (hu : Below wr.heap.size wr u) (hd : RpDid u D' p base S' L' v2 v3 D3 w3) : Own iKind w3 w.heap.size (fun _ => False) av (putL (fun _ => none) T0 (S.cells.length + 1) L (t.args.take i)).1 :=
  (Own.below h.own hu).keep hd.kp.size fun b hb he => hd.kp.block b hb fun e => by
    rcases he with he | he
    · exact he
    · rcases e with e | e
      · exact (h.ad b he).1 e
      · exact (h.ad b he).2 e
theorem RpAt.next (h : RpAt w D p base S T0 t L v i v2 av D' wr) (hi : i < t.args.length) (hu : Below wr.heap.size wr u) {s : Int × List SCell × List (Int × Int)} (hs : s = putT (fun _ => none) T0 (S.cells.length + 1 + (putL (fun _ => none) T0 (S.cells.length + 1) L (t.args.take i)).2.1.length) (putL (fun _ => none) T0 (S.cells.length + 1) L (t.args.take i)).2.2 t.args[i])
    (hd : RpDid u D' p base ⟨S.room, (S.cells ++ ⟨t.k, t.n, t.s, [], -1, T0⟩ :: (putL (fun _ => none) T0 (S.cells.length + 1) L (t.args.take i)).2.1) ++ s.2.1, S.bonds⟩ s.2.2 v2 v3 D3 w3) (hb4 : Below w3.heap.size w3 w4) (ho : Own iKind w5 w.heap.size (fun _ => False) av' ((putL (fun _ => none) T0 (S.cells.length + 1) L (t.args.take i)).1 ++ [s.1])) (hg : w4.grownBy w5 av.ownBlock)
    (hv : ∀ k, av'.ownBlock = some k → av.ownBlock = some k ∨ w4.heap.size ≤ k) : RpAt w D p base S T0 t L v (i + 1) v3 av' D3 w5 := by
  have hz1 := hu.size
  have hz2 := hd.kp.size
  have hz4 := hb4.size
  have hz5 := hg.size
  have hz0 := h.did.kp.size
  have hlow := h.own.low
  have hD3 : ∀ k, av.ownBlock = some k → ¬ D3 k ∧ v3.ownBlock ≠ some k := fun k e => ⟨fun e' => by
    have := hlow k e
    rcases hd.dn k e' with h' | h'
    · exact (h.ad k e).1 h'
    · omega, fun e' => by
    have := hlow k e
    rcases hd.vo k e' with h' | h'
    · exact (h.ad k e).2 h'
    · omega⟩
  have hD3l : ∀ k, D3 k → k < w3.heap.size := by obtain ⟨cv, bv, A, hr⟩ := hd.ref; exact hr.dl
  have hk5 : ∀ k, k < w3.heap.size → av.ownBlock ≠ some k → w5.heap[k]? = w3.heap[k]? := fun k hk hn => (hg.block k (by omega) fun e => hn e.symm).trans (hb4.block k hk)
  have ht := putL_take (told := fun _ => none) (T0 := T0) (b := S.cells.length + 1) (F := L) hi
  rw [← hs] at ht
  refine ⟨by omega, ⟨?_, ?_, ?_, fun b hb => ?_, fun k e => ?_, hd.vd⟩, ?_, fun k e => ?_⟩
  · rw [ht]
    have := hd.ref.keep (w' := w5) (by omega) fun b hb hd' => hk5 b hb fun e => (hD3 b e).1 hd'
    rw [List.append_assoc, List.cons_append] at this
    exact this
  · rw [ht]
    exact hd.prs.keep (by omega) fun b hb he => hk5 b hb fun e => by
      rcases he with he | he
      · exact he
      · exact (hD3 b e).2 he
  · refine ⟨hg.os.trans (hb4.os.trans (hd.kp.os.trans (hu.os.trans h.did.kp.os))), hg.tape.trans (hb4.tape.trans (hd.kp.tape.trans (hu.tape.trans h.did.kp.tape))), hg.output.trans (hb4.output.trans (hd.kp.output.trans (hu.output.trans h.did.kp.output))), by omega, fun b hb hn => ?_⟩
    refine (hk5 b (by omega) fun e => by have := hlow b e; omega).trans ((hd.kp.block b (by omega) fun e => ?_).trans ((hu.block b (by omega)).trans (h.did.kp.block b hb hn)))
    rcases e with e | e
    · rcases h.did.dn b e with h' | h'
      · exact hn (.inl h')
      · omega
    · rcases h.did.vo b e with h' | h'
      · exact hn (.inr h')
      · omega
  · rcases hd.dn b hb with h' | h'
    · rcases h.did.dn b h' with h'' | h''
      · exact .inl h''
      · exact .inr ⟨by omega, by omega⟩
    · exact .inr ⟨by omega, by omega⟩
  · rcases hd.vo k e with h' | h'
    · exact h.did.vo k h'
    · exact .inr (by omega)
  · rw [ht]
    exact ho
  · rcases hv k e with h' | h'
    · exact hD3 k h'
    · refine ⟨fun e' => by have := hD3l k e'; omega, fun e' => ?_⟩
      have := (hd.prs.low k e').2
      omega
end
set_option maxRecDepth 100000 in
set_option maxHeartbeats 4000000 in
theorem ref_put (T0 : Int) (p base : Nat) (N : Nat) : ∀ (t : Tm) (S : Sto) (D : Nat → Prop) (L : List (Int × Int)) (v tv : Value) (P : Nat → Prop) (w : World), t.size ≤ N → mayT t = true → RefAt w D p S → Prs w base v L → (∀ k, v.ownBlock = some k → ¬ D k) → base ≤ w.heap.size → (∀ q ∈ L, 0 ≤ q.2) → L.length + t.size ≤ 1000000 → IsTm w P tv t →
    (∀ b, P b → ¬ D b ∧ v.ownBlock ≠ some b) → S.cells.length + t.size ≤ 20000000 → (((S.cells.length + (putT (fun _ => none) T0 S.cells.length L t).2.1.length : Nat) : Int) ≤ S.room) →
    Calls Try.prog 75 #[.pointer (some ⟨p, 0, none⟩), tv, v] w (RpPost w D p base S v (putT (fun _ => none) T0 S.cells.length L t)) := by
  induction N with
  | zero => intro t S D L v tv P w hN; have := size_pos t; omega
  | succ N ih =>
    intro t S D L v tv P w hN hmay hS hL hvd hbs hL0 hLl ht hP hlen hroom
    by_cases k1 : t.k = 1
    · exact ref_put_var T0 t k1 hS hL hvd hbs (fun n a h => hL0 _ (mget_some h)) (by omega) ht (by omega) hroom
    have IH := Lib.hid ih
    clear ih
    have hpe := putT_non (told := fun _ => none) (T0 := T0) (b := S.cells.length) (F := L) hmay k1
    rw [hpe] at hroom ⊢
    have e1 : (t.k == 1) = false := by simpa using k1
    obtain ⟨q, c, rfl⟩ := own_form hL
    obtain ⟨a, k, rfl⟩ := ht.form
    have hb := below_new w (.cells #[.int .i64 t.k, .int .i64 t.n, .string t.s, .slice a t.args.length k] 33 (0, 0))
    have hr := heap_alloc_new w (.cells #[.int .i64 t.k, .int .i64 t.n, .string t.s, .slice a t.args.length k] 33 (0, 0))
    have hdlt : ∀ b, D b → b < w.heap.size := by obtain ⟨cv, bv, A, h⟩ := hS; exact h.dl
    have hsz1 : (w.alloc (.cells #[.int .i64 t.k, .int .i64 t.n, .string t.s, .slice a t.args.length k] 33 (0, 0))).heap.size = w.heap.size + 1 := by simp
    have HDLT := Lib.hid hdlt
    have HLW := Lib.hid (show ∀ k, (Value.slice q L.length c).ownBlock = some k → k < w.heap.size from fun k e => (hL.low k e).2)
    have HS1 := Lib.hid (hS.below hb)
    have HL1 := Lib.hid (Own.below hL hb)
    have HB1 := Lib.hid hb
    have HR1 := Lib.hid hr
    have HT1 := Lib.hid (IsTm.below ht.lt hb)
    have HSW := Lib.hid (IsTm.args ht.lt)
    have HVD := Lib.hid hvd
    have HP := Lib.hid hP
    have HL0 := Lib.hid hL0
    have HM := Lib.hid hmay
    have HRM := Lib.hid hroom
    obtain ⟨x0, x1, x2, x3⟩ := row4 hr
    clear hS hL hb hvd ht hr hL0 hdlt hmay hpe hroom hP
    go_enter Try.func75, Try.ntmps75
    go_upto_region 7 with fail
    obtain ⟨w1, hw1⟩ : ∃ w1, w1 = w.alloc (.cells #[.int .i64 t.k, .int .i64 t.n, .string t.s, .slice a t.args.length k] 33 (0, 0)) := ⟨_, rfl⟩
    rw [← hw1] at HS1 HL1 HB1 HR1 HT1 hsz1 ⊢
    clear hw1 x0 x1 x2 x3
    have hs1 := HS1.out
    obtain ⟨cv, bv, A, hrow⟩ := hs1
    obtain ⟨qc, cap, rfl⟩ := own_form hrow.own
    obtain ⟨x0, x1, x2⟩ := row3 hrow.row
    have HRW := Lib.hid hrow
    clear hrow HS1
    go_upto_region 8 with fail
    clear x0 x1 x2
    refine wp_region_rest (by kernel_rfl) ?_
    have hdr := (Below.refl w1.heap.size w1).drew
    have HRW0 := Lib.hid (HRW.out.below hdr)
    have HL0' := Lib.hid (Own.below HL1.out hdr)
    have HB0 := Lib.hid (HB1.out.trans (hdr.mono HB1.out.size))
    have HR0 := Lib.hid ((hdr.block w.heap.size (by omega)).trans HR1.out)
    have HT0 := Lib.hid (IsTm.below HT1.out hdr)
    have hsz0 : w1.drew.heap.size = w.heap.size + 1 := hsz1
    clear hdr HRW HL1 HB1 HR1 HT1
    generalize w1.drew = W0 at *
    have hpl := HRW0.out.dl p HRW0.out.dp
    have hbq : (Value.slice qc S.cells.length cap).ownBlock ≠ some w.heap.size := fun e => by have := HDLT.out _ (HRW0.out.dc _ e); omega
    refine rest_chainP (fun u => Keeps W0 u (fun b => (Value.slice qc S.cells.length cap).ownBlock = some b)) 0 14 (.soft 0 (.soft 1 (.soft 2 (.soft 3 (.soft 4 (.soft 5 (.soft 6 (.soft 7 (.soft 8 (.soft 9 (.soft 10 (.soft 11 (.one 12 (.one 13 .nil)))))))))))))) (.soft _ (.soft _ (.soft _ (.soft _ (.soft _ (.soft _ (.soft _ (.soft _ (.soft _ (.soft _ (.soft _ (.soft _ (.one _ (.one _ .nil)))))))))))))) ⟨rfl, ⟨rfl, ⟨rfl, ⟨rfl, ⟨rfl, ⟨rfl, ⟨rfl, ⟨rfl, ⟨rfl, ⟨rfl, ⟨rfl, ⟨rfl, ⟨rfl, ⟨rfl, trivial⟩⟩⟩⟩⟩⟩⟩⟩⟩⟩⟩⟩⟩⟩ (by kernel_rfl) (by kernel_rfl) (by kernel_rfl) (by kernel_rfl) (.inr (by kernel_rfl)) (Keeps.refl _ _) ?_
    refine chainP_soft (a1 := ?ma1) (by kernel_rfl) (by kernel_rfl) ?mh1 ?mr1
    case mh1 =>
      intro u hu E hE
      go_wp2
      rfl
    refine chainP_soft (a1 := ?ma2) (by kernel_rfl) (by kernel_rfl) ?mh2 ?mr2
    case mh2 =>
      intro u hu E hE
      go_wp2
      rfl
    refine chainP_nck _ _ rfl rfl rfl ?_
    simp only [Act.put, List.getElem?_toArray, List.getElem?_cons_succ, List.getElem?_cons_zero, Option.bind_some, List.setIfInBounds_toArray, List.set_cons_succ, List.set_cons_zero, Nat.reduceAdd]
    refine chainP_soft (a1 := ?ma3) (by kernel_rfl) (by kernel_rfl) ?mh3 ?mr3
    case mh3 =>
      intro u hu E hE
      go_wp2
      rfl
    refine chainP_soft (a1 := ?ma4) (by kernel_rfl) (by kernel_rfl) ?mh4 ?mr4
    case mh4 =>
      intro u hu E hE
      obtain ⟨y0, y1, y2⟩ := row3 ((hu.block p hpl HRW0.out.pc).trans HRW0.out.row)
      go_wp2
      rfl
    refine chainP_soft (a1 := ?ma5) (by kernel_rfl) (by kernel_rfl) ?mh5 ?mr5
    case mh5 =>
      intro u hu E hE
      go_wp2
      rfl
    refine chainP_soft (a1 := ?ma6) (by kernel_rfl) (by kernel_rfl) ?mh6 ?mr6
    case mh6 =>
      intro u hu E hE
      obtain ⟨y0, y1, y2, y3⟩ := row4 ((hu.block w.heap.size (by omega) hbq).trans HR0.out)
      go_wp2
      rfl
    refine chainP_soft (a1 := ?ma7) (by kernel_rfl) (by kernel_rfl) ?mh7 ?mr7
    case mh7 =>
      intro u hu E hE
      go_wp2
      rfl
    refine chainP_soft (a1 := ?ma8) (by kernel_rfl) (by kernel_rfl) ?mh8 ?mr8
    case mh8 =>
      intro u hu E hE
      obtain ⟨y0, y1, y2, y3⟩ := row4 ((hu.block w.heap.size (by omega) hbq).trans HR0.out)
      go_wp2
      rfl
    refine chainP_soft (a1 := ?ma9) (by kernel_rfl) (by kernel_rfl) ?mh9 ?mr9
    case mh9 =>
      intro u hu E hE
      go_wp2
      rfl
    refine chainP_soft (a1 := ?ma10) (by kernel_rfl) (by kernel_rfl) ?mh10 ?mr10
    case mh10 =>
      intro u hu E hE
      obtain ⟨y0, y1, y2, y3⟩ := row4 ((hu.block w.heap.size (by omega) hbq).trans HR0.out)
      go_wp2
      rfl
    refine chainP_soft (a1 := ?ma11) (by kernel_rfl) (by kernel_rfl) ?mh11 ?mr11
    case mh11 =>
      intro u hu E hE
      go_wp2
      rfl
    refine chainP_one ?_
    intro E hE
    go_wp2
    have hbN := below_new W0 (.cells #[.int .i64 t.k, .int .i64 t.n, .string t.s, .slice none 0 0, .int .i64 (-1)] 122 (0, 0))
    have HNA := Lib.hid (heap_alloc_new W0 (.cells #[.int .i64 t.k, .int .i64 t.n, .string t.s, .slice none 0 0, .int .i64 (-1)] 122 (0, 0)))
    refine ⟨Keeps.of hbN, ?_⟩
    have HBN := Lib.hid hbN
    have HRWN := Lib.hid (HRW0.out.below hbN)
    have hszN : (W0.alloc (.cells #[.int .i64 t.k, .int .i64 t.n, .string t.s, .slice none 0 0, .int .i64 (-1)] 122 (0, 0))).heap.size = w.heap.size + 2 := by simp; omega
    rw [hsz0] at HNA
    clear hbN
    refine chainP_one ?_
    intro E hE
    refine wpList_put (K := rcKind) rfl (.tmp 50) (.tmp 58) _ rfl Try.underlying65 info_rcell rfl 0 A (.slice qc S.cells.length cap) S.cells [.int .i64 t.k, .int .i64 t.n, .string t.s, .slice none 0 0, .int .i64 (-1)] ⟨t.k, t.n, t.s, [], -1, T0⟩ _ _ _ _ rfl HRWN.out.own rfl HNA.out ⟨_, rfl, IntSl.nil _ _⟩ (by unfold maxLen; omega) (by omega) (Nat.zero_le _) ?_
    intro v3 w3 hown3 hb3 hg3 hv3
    obtain ⟨g9, c9, rfl⟩ : ∃ g9 c9, v3 = .slice (some ⟨g9, 0, none⟩) (S.cells.length + 1) c9 := by
      rcases hown3.form with h | ⟨g9, c9, e9⟩
      · exfalso; have := congrArg List.length h.2; simp at this
      · exact ⟨g9, c9, by rw [e9]; simp⟩
    have hkN : Keeps W0 w3 (fun b => (Value.slice qc S.cells.length cap).ownBlock = some b) := ⟨hg3.os.trans HBN.out.os, hg3.tape.trans HBN.out.tape, hg3.output.trans HBN.out.output, by have := hg3.size; omega, fun b hb hn => (hg3.block b (by omega) fun e => hn e.symm).trans (HBN.out.block b hb)⟩
    refine hE _ _ ⟨hkN, ?_⟩
    refine chainP_nil ?_
    obtain ⟨⟨c7, z7⟩, hfin⟩ := HRW0.out.putCell HBN.out hg3 hown3 hv3
    have HFIN := Lib.hid hfin
    have HKN := Lib.hid hkN
    clear hfin hown3 hb3 hg3 hv3 hkN
    refine rest_lineL 14 17 [_, _, _] rfl (by kernel_rfl) (by decide) (by decide) (by kernel_rfl) ?_
    have hzs : (w3.setCell ⟨p, 1, none⟩ (.slice (some ⟨g9, 0, none⟩) (S.cells.length + 1) c9)).heap.size = w3.heap.size := by simp [World.setCell]
    have hz3 := HKN.out.size
    go_wp2
    refine then_rest (rest_end (by decide) ?_)
    obtain ⟨w4, hw4⟩ : ∃ w4, w4 = w3.setCell ⟨p, 1, none⟩ (.slice (some ⟨g9, 0, none⟩) (S.cells.length + 1) c9) := ⟨_, rfl⟩
    rw [← hw4] at HFIN hzs ⊢
    clear hw4
    have hkd := HFIN.out.2.block
    have hdl := HDLT.out
    have hr4 := (hkd w.heap.size (by omega) fun e => by have := hdl _ e; omega).trans HR0.out
    have hst : RpRel w D p base S T0 t L (.slice q L.length c) (.slice q L.length c) (.slice none 0 0) (.int .i64 ((0 : Nat) : Int)) w4 := by
      refine ⟨0, Grew D W0 w3, rfl, Nat.zero_le _, ⟨?_, ?_, ?_, fun b hb => ?_, fun k e => .inl e, fun k e hd => ?_⟩, ?_, fun k e => by cases e⟩
      · rw [List.take_zero]
        simp only [putL]
        exact ⟨_, _, _, HFIN.out.1⟩
      · rw [List.take_zero]
        simp only [putL]
        exact HL0'.out.keep HFIN.out.2.size fun b hb he => hkd b hb fun e => by
          rcases he with he | he
          · exact he
          · exact HVD.out b he e
      · exact (Keeps.of HB0.out).trans HFIN.out.2 fun b hb => .inl (.inl hb)
      · rcases hb with hb | hb
        · exact .inl hb
        · exact .inr ⟨by omega, by omega⟩
      · rcases hd with hd | hd
        · exact HVD.out k e hd
        · have := HLW.out k e
          omega
      · rw [List.take_zero]
        simp only [putL]
        exact Own.nil _ _ _
    have HST := Lib.hid hst
    obtain ⟨y0, y1, y2, y3⟩ := row4 hr4
    have htl : t.args.length ≤ 1000000 := by have := len_le t.args; have : sizeL t.args + 1 = t.size := by obtain ⟨k1, n1, s1, a1⟩ := t; simp [Tm.size, Tm.args]
                                             omega
    clear hst hr4 hkd HFIN HKN HRWN HRW0 HL0' HB0 HR0 HT0 HNA HBN hdl c7 z7 hsz0 hsz1 hszN hz3 hzs hpl hbq
    go_upto_region 11 with fail
    clear y0 y1 y2 y3
    have hsza : sizeL t.args + 1 = t.size := by obtain ⟨k1, n1, s1, a1⟩ := t; simp [Tm.size, Tm.args]
    have hmal : mayTL t.args = true := by
      have h := HM.out
      obtain ⟨k1, n1, s1, a1⟩ := t
      simp only [mayT, Bool.and_eq_true] at h
      exact h.2
    have HMAL := Lib.hid hmal
    clear hmal
    go_loopw [2, 12, 65] (fun v2 v12 v65 wr => RpRel w D p base S T0 t L (.slice q L.length c) v2 v12 v65 wr) (fun _ _ v65 _ => t.args.length - (intOf v65).toNat)
    case atStart => exact HST.out
    case round =>
      clear HST
      obtain ⟨i, D', rfl, hat⟩ := hrel
      obtain ⟨q2, c2, rfl⟩ := own_form hat.did.prs
      obtain ⟨qa, ca, rfl⟩ := own_form hat.own
      obtain ⟨r, hr⟩ : ∃ r, r = putL (fun _ => none) T0 (S.cells.length + 1) L (t.args.take i) := ⟨_, rfl⟩
      have hr1 : r.1.length = i := by rw [hr, putL_fst, List.length_take]; have := hat.le; omega
      have hr2 : r.2.2.length ≤ L.length + sizeL (t.args.take i) := by rw [hr]; exact putF_lenL _ _ _
      have hr3 : r.2.1.length ≤ sizeL (t.args.take i) := by rw [hr]; exact putL_len _ _ _ _ _
      rw [← hr] at hat ⊢
      rw [hr1] at hat ⊢
      have HR := Lib.hid hr
      have HAT := Lib.hid hat
      clear hr hat
      have hile := HAT.out.le
      by_cases hil : i < t.args.length
      · have b1 : decide ((i : Int) < (t.args.length : Int)) = true := by simp; omega
        have hsu := HSW.out.imp (w' := wr) (P' := fun b => P b ∧ b < w.heap.size) (fun b hb => hb) fun b hb hlt => HAT.out.did.kp.block b hlt (fun e => by
          rcases e with e | e
          · exact (HP.out b hb.1).1 e
          · exact (HP.out b hb.1).2 e)
        obtain ⟨b, off, e1', hPb, hat'⟩ := hsu.at i hil
        obtain rfl := e1'
        have hxs := size_mem hil
        have hss := sizeL_succ' t.args i hil
        have hsl := sizeL_le_take t.args (i + 1)
        have hxm : mayT t.args[i] = true := mayTL_memR HMAL.out _ (List.getElem_mem hil)
        obtain ⟨s, hs⟩ : ∃ s, s = putT (fun _ => none) T0 (S.cells.length + 1 + r.2.1.length) r.2.2 t.args[i] := ⟨_, rfl⟩
        have hrm1 : S.cells.length + 1 + r.2.1.length + s.2.1.length ≤ S.cells.length + (⟨t.k, t.n, t.s, (putL (fun _ => none) T0 (S.cells.length + 1) L t.args).1, -1, T0⟩ :: (putL (fun _ => none) T0 (S.cells.length + 1) L t.args).2.1 : List SCell).length := by
          have h1 := putL_take (told := fun _ => none) (T0 := T0) (b := S.cells.length + 1) (F := L) hil
          have h2 := putL_take_len (told := fun _ => none) (T0 := T0) t.args (S.cells.length + 1) L (i + 1)
          rw [h1, ← HR.out, ← hs] at h2
          simp only [List.length_append] at h2
          simp only [List.length_cons]
          omega
        have hrm2 := HRM.out
        have hnn : ∀ q ∈ r.2.2, 0 ≤ q.2 := by rw [HR.out]; exact putL_nn HL0.out
        have HS := Lib.hid hs
        have HXM := Lib.hid hxm
        have HNN := Lib.hid hnn
        rw [HR.out] at hs
        have HSS := Lib.hid hs
        have hlen2 : (S.cells ++ ⟨t.k, t.n, t.s, [], -1, T0⟩ :: r.2.1).length = S.cells.length + 1 + r.2.1.length := by simp; omega
        clear hs hxm hnn hsu
        have hdid := HAT.out.did
        rw [← HR.out] at hdid
        have HDID := Lib.hid hdid
        clear hdid
        generalize hx : t.args[i] = x at *
        have HX := Lib.hid hx
        clear hx
        obtain ⟨ax, cx, x0, x1, x2, x3, ix, lx⟩ := hat'.read
        have hb5 := below_new wr (.cells #[.int .i64 x.k, .int .i64 x.n, .string x.s, .slice ax x.args.length cx] 33 (0, 0))
        have hr5 := heap_alloc_new wr (.cells #[.int .i64 x.k, .int .i64 x.n, .string x.s, .slice ax x.args.length cx] 33 (0, 0))
        obtain ⟨y0, y1, y2, y3⟩ := row4 hr5
        have HB5 := Lib.hid hb5
        have hzw := HAT.out.did.kp.size
        have hz5 : (wr.alloc (.cells #[.int .i64 x.k, .int .i64 x.n, .string x.s, .slice ax x.args.length cx] 33 (0, 0))).heap.size = wr.heap.size + 1 := by simp
        have hq := IH.out x ⟨S.room, S.cells ++ ⟨t.k, t.n, t.s, [], -1, T0⟩ :: r.2.1, S.bonds⟩ D' r.2.2 (.slice q2 r.2.2.length c2) _ (fun b => P b ∧ b < w.heap.size) _ (by omega) HXM.out (HDID.out.ref.below hb5) (Own.below HDID.out.prs hb5) HDID.out.vd (by omega) HNN.out (by omega) (IsTm.below ix hb5)
          (fun b hb => ⟨fun e => by
            rcases HDID.out.dn b e with e | e
            · exact (HP.out b hb.1).1 e
            · have := hb.2; omega, fun e => by
            rcases HDID.out.vo b e with e | e
            · exact (HP.out b hb.1).2 e
            · have := hb.2; omega⟩) (by rw [hlen2]; omega) (by rw [hlen2, ← HS.out]; exact Int.le_trans (by omega) hrm2)
        rw [hlen2, ← HS.out] at hq
        have HQ := Lib.hid hq
        clear hq hr5 hb5 hat' ix
        go_wp2_with fail
        refine HQ.out.mono ?_
        rintro e6 w6 ⟨v6, D6, rfl, h6⟩
        obtain ⟨q6, c6, rfl⟩ := own_form h6.prs
        have ho6 := HAT.out.own3 HB5.out h6
        rw [← HR.out] at ho6
        obtain ⟨s1, hs1⟩ : ∃ s1, s1 = s.1 := ⟨_, rfl⟩
        have hb7 := below_new w6 (.cells #[.int .i64 s1] 3 (0, 0))
        have HNA := Lib.hid (heap_alloc_new w6 (.cells #[.int .i64 s1] 3 (0, 0)))
        have HO7 := Lib.hid (Own.below ho6 hb7)
        have HB7 := Lib.hid hb7
        have H6 := Lib.hid h6
        have hz6 := h6.kp.size
        have hz7 : (w6.alloc (.cells #[.int .i64 s1] 3 (0, 0))).heap.size = w6.heap.size + 1 := by simp
        have HS1 := Lib.hid hs1
        have hi1 : i + 1 ≤ 1000001 := by omega
        rw [← hs1]
        clear h6 ho6 hb7 hs1 x0 x1 x2 x3 y0 y1 y2 y3 HQ
        dsimp only
        go_wp2_with (with_reducible show wpList _ _ _ (⟨some 79, _, _, _, _, _⟩ :: _) _ _
                     refine wpList_put (K := iKind) rfl (.tmp 76) (.tmp 78) _ rfl Try.underlying50 info_int rfl w.heap.size (fun _ => False) (.slice qa i ca) r.1 [.int .i64 s1] s1 _ _ _ _ rfl HO7.out rfl HNA.out rfl (by rw [hr1]; unfold maxLen; omega) (by rw [hr1]; omega) (by omega) ?_
                     intro v8 w8 ho8 hb8 hg8 hv8
                     have HO8 := Lib.hid ho8
                     have HG8 := Lib.hid hg8
                     have HV8 := Lib.hid hv8
                     clear ho8 hb8 hg8 hv8)
        have hnx : RpAt w D p base S T0 t L (.slice q L.length c) (i + 1) (.slice q6 s.2.2.length c6) v8 D6 w8 := HAT.out.next (s := s) hil HB5.out (by rw [HX.out]; exact HSS.out) (by rw [← HR.out]; exact H6.out) HB7.out (by rw [← HR.out, ← HS1.out]; exact HO8.out) HG8.out HV8.out
        have HNX := Lib.hid hnx
        clear hnx
        go_roundw
        case measure => simp [intOf]; omega
        case rel => exact ⟨i + 1, D6, rfl, HNX.out⟩
      · have b1 : decide ((i : Int) < (t.args.length : Int)) = false := by simp; omega
        have ei : i = t.args.length := by omega
        subst ei
        have hat := HAT.out
        have hrr := HR.out
        rw [List.take_length] at hrr
        obtain ⟨D9, hfin⟩ : ∃ D9, RpAt w D p base S T0 t L (.slice q L.length c) t.args.length (.slice q2 r.2.2.length c2) (.slice qa t.args.length ca) D9 wr := ⟨D', hat⟩
        obtain ⟨cv9, bv9, A9, hrow⟩ := hat.did.ref
        rw [List.take_length, ← hrr] at hrow
        have hv9 : S.cells.length < (S.cells ++ ⟨t.k, t.n, t.s, [], -1, T0⟩ :: r.2.1).length := by simp
        obtain ⟨g, cap9, av0, rfl, q1, q2', -, -, -, c3, -, -⟩ := hrow.cell S.cells.length hv9
        have hl9 : (S.cells ++ ⟨t.k, t.n, t.s, [], -1, T0⟩ :: r.2.1).length = S.cells.length + 1 + r.2.1.length := by simp; omega
        have ft := hrow.own.thaw rfl (S.cells.length * 5 + 3)
        obtain ⟨x0, x1, x2⟩ := row3 hrow.row
        have hown := hat.own
        have hset := hrow.setArgs S.cells.length hv9 ⟨t.k, t.n, t.s, [], -1, T0⟩ (by simp) (IntSl.move (w' := wr) (P' := fun b => (Value.slice qa t.args.length ca).ownBlock = some b) (own_is hown) (fun b hb _ => hb.1) fun _ _ _ => rfl) (fun k e => ⟨(hat.ad k e).1, (hown.low k e).2⟩)
        have HSET := Lib.hid hset
        have HROW := Lib.hid hrow
        have HFN := Lib.hid hat
        have HRR := Lib.hid hrr
        clear hset hrow hat hrr hown hfin
        rw [hl9] at x1 q1
        have hx0 : (0 : Int) ≤ (S.cells.length : Int) := by omega
        have hx1 : (S.cells.length : Int) < ((S.cells.length + 1 + r.2.1.length : Nat) : Int) := by omega
        go_wp2
        go_ret2
        have hat := HFN.out
        have hrow := HROW.out
        have hset := HSET.out
        have hgD : D' g := hrow.dc g rfl
        have hzs : (wr.setCell ⟨g, S.cells.length * 5 + 3, none⟩ (.slice qa t.args.length ca)).heap.size = wr.heap.size := by simp [World.setCell]
        have hzw := hat.did.kp.size
        have hcs : (S.cells ++ ⟨t.k, t.n, t.s, [], -1, T0⟩ :: r.2.1).set S.cells.length ⟨t.k, t.n, t.s, r.1, -1, T0⟩ = S.cells ++ ⟨t.k, t.n, t.s, r.1, -1, T0⟩ :: r.2.1 := by simp
        rw [← HRR.out]
        refine ⟨.slice q2 r.2.2.length c2, fun b => D' b ∨ (Value.slice qa t.args.length ca).ownBlock = some b, rfl, ?_, ?_, ?_, fun b hb => ?_, hat.did.vo, fun k e hd => ?_⟩
        · have h9 := hset
          rw [List.take_length, ← HRR.out] at h9
          rw [← hcs]
          exact ⟨_, _, _, h9⟩
        · have hp := hat.did.prs
          rw [List.take_length, ← HRR.out] at hp
          exact hp.keep (by omega) fun b hb he => Below.heap_setCell _ _ _ _ fun e => by
            have e : b = g := e
            rcases he with he | he
            · exact he
            · exact hat.did.vd b he (e ▸ hgD)
        · refine ⟨hat.did.kp.os, hat.did.kp.tape, hat.did.kp.output, by omega, fun b hb hn => (Below.heap_setCell _ _ _ _ fun e => ?_).trans (hat.did.kp.block b hb hn)⟩
          have e : b = g := e
          subst e
          rcases hat.did.dn b hgD with h | h
          · exact hn (.inl h)
          · omega
        · rcases hb with hb | hb
          · rcases hat.did.dn b hb with h | h
            · exact .inl h
            · exact .inr ⟨by omega, by omega⟩
          · have := hat.own.low b hb
            exact .inr ⟨by omega, by omega⟩
        · rcases hd with hd | hd
          · exact hat.did.vd k e hd
          · exact (hat.ad k hd).2 e
end Go.Proofs.Ytoklbeogmcdgaaa.Tms
namespace Go.Proofs.Ytoklbeogmcdgaaa.Tms
open Go Go.RowKit Go.Proofs.Ytoklbeogmcdgaaa.Reg Go.Proofs.Ytoklbeogmcdgaaa.Rws Go.Proofs.Ytoklbeogmcdgaaa.Maps
set_option linter.unusedVariables false
set_option linter.unusedSimpArgs false

/-- a told variable whose cell isn't there -/
def lostR (n : Nat) (L : List (Int × Int)) (v : Int) : Bool := (mget L v).isSome && !(decide (0 ≤ (mget L v).getD (-1)) && decide ((mget L v).getD (-1) < (n : Int)))
/-- what the reference's Put answers: the cell and the error, the new cells, the pairs -/
def rPut (T0 : Int) (S : Sto) (L : List (Int × Int)) (t : Tm) : (Int × Int) × List SCell × List (Int × Int) :=
  if checkT t ≠ 0 then ((0, checkT t), [], L) else if (rvT t).any (lostR S.cells.length L) = true then ((0, 2), [], L) else if S.room - S.cells.length < (needR L t : Int) then ((0, 9), [], L)
  else (((putT (fun _ => none) T0 S.cells.length L t).1, 0), (putT (fun _ => none) T0 S.cells.length L t).2.1, (putT (fun _ => none) T0 S.cells.length L t).2.2)
def RPutPost (w : World) (D : Nat → Prop) (p base : Nat) (S : Sto) (v : Value) (r : (Int × Int) × List SCell × List (Int × Int)) (e : Ending) (w' : World) : Prop :=
  ∃ v' D', e = .returned (.tuple #[.int .i64 r.1.1, v', .int .i64 r.1.2]) ∧ RpDid w D p base ⟨S.room, S.cells ++ r.2.1, S.bonds⟩ r.2.2 v v' D' w'
theorem RpDid.same {w w' : World} {D : Nat → Prop} {p base : Nat} {S : Sto} {L : List (Int × Int)} {v : Value} (hS : RefAt w D p S) (hL : Prs w base v L) (hvd : ∀ k, v.ownBlock = some k → ¬ D k) (hb : Below w.heap.size w w') : RpDid w D p base ⟨S.room, S.cells ++ [], S.bonds⟩ L v v D w' := by
  rw [List.append_nil]
  exact ⟨hS.below hb, Own.below hL hb, Keeps.of hb, fun b hb => .inl hb, fun k e => .inl e, hvd⟩
def PtRel (n : Nat) (L : List (Int × Int)) (l : List Int) (w : World) (vi : Value) (wr : World) : Prop := ∃ i : Nat, i ≤ l.length ∧ vi = .int .i64 i ∧ (∀ x ∈ l.take i, lostR n L x = false) ∧ Below w.heap.size w wr
set_option maxRecDepth 100000 in
set_option maxHeartbeats 4000000 in
theorem ref_Put (T0 : Int) {p base : Nat} {t : Tm} {S : Sto} {D : Nat → Prop} {L : List (Int × Int)} {v tv : Value} {P : Nat → Prop} (w : World) (hS : RefAt w D p S) (hL : Prs w base v L) (hvd : ∀ k, v.ownBlock = some k → ¬ D k) (hbs : base ≤ w.heap.size) (hL0 : ∀ q ∈ L, 0 ≤ q.2) (hLl : L.length + t.size ≤ 1000000) (ht : IsTm w P tv t)
    (hP : ∀ b, P b → ¬ D b ∧ v.ownBlock ≠ some b) (hlen : S.cells.length + t.size ≤ 20000000) (hroom : 0 ≤ S.room ∧ S.room ≤ 20000000) (hvl : (rvT t).length ≤ 1000000) (hnl : checkT t = 0 → (putT (fun _ => none) T0 S.cells.length L t).2.1.length ≤ needR L t) :
    Calls Try.prog 33 #[.pointer (some ⟨p, 0, none⟩), tv, v] w (RPutPost w D p base S v (rPut T0 S L t)) := by
  obtain ⟨q, c, rfl⟩ := own_form hL
  obtain ⟨a, k, rfl⟩ := ht.form
  have hb := below_new w (.cells #[.int .i64 t.k, .int .i64 t.n, .string t.s, .slice a t.args.length k] 33 (0, 0))
  have hr := heap_alloc_new w (.cells #[.int .i64 t.k, .int .i64 t.n, .string t.s, .slice a t.args.length k] 33 (0, 0))
  have hdlt : ∀ b, D b → b < w.heap.size := by obtain ⟨cv, bv, A, h⟩ := hS; exact h.dl
  have HDLT := Lib.hid hdlt
  have hsz1 : (w.alloc (.cells #[.int .i64 t.k, .int .i64 t.n, .string t.s, .slice a t.args.length k] 33 (0, 0))).heap.size = w.heap.size + 1 := by simp
  have HS := Lib.hid hS
  have HL := Lib.hid hL
  have HVD := Lib.hid hvd
  have HL0 := Lib.hid hL0
  have HP := Lib.hid hP
  have HNL := Lib.hid hnl
  have HT := Lib.hid ht.lt
  have HB := Lib.hid hb
  have HR := Lib.hid hr
  obtain ⟨x0, x1, x2, x3⟩ := row4 hr
  clear hS hL hvd hL0 hP hnl ht hb hr hdlt
  go_enter Try.func33, Try.ntmps33
  go_upto_region 1 with fail
  obtain ⟨w1, hw1⟩ : ∃ w1, w1 = w.alloc (.cells #[.int .i64 t.k, .int .i64 t.n, .string t.s, .slice a t.args.length k] 33 (0, 0)) := ⟨_, rfl⟩
  rw [← hw1] at HB HR hsz1 x0 x1 x2 x3 ⊢
  clear hw1
  go_wp2_with fail
  refine (ref_check t _ _ _ (by omega) (IsTm.below HT.out HB.out)).mono ?_
  rintro e2 w2 ⟨rfl, hb2⟩
  have HB2 := Lib.hid (HB.out.trans (hb2.mono HB.out.size))
  have hr2 := (hb2.block w.heap.size (by omega)).trans HR.out
  have HR2 := Lib.hid hr2
  clear hb2 x0 x1 x2 x3
  by_cases hc : checkT t = 0
  · obtain ⟨x0, x1, x2, x3⟩ := row4 hr2
    rw [hc]
    have HC := Lib.hid hc
    clear hc hr2 HB HR
    have hz2 := HB2.out.size
    have hs2 : w.heap.size < w2.heap.size := (Array.getElem?_eq_some_iff.1 HR2.out).1
    go_upto_region 4 with fail
    go_wp2_with fail
    refine (ref_vars _ t _ _ _ (Nat.le_refl _) (by omega) (IsTm.below HT.out HB2.out)).mono ?_
    rintro e3 w3 ⟨v3, rfl, hi3, hb3⟩
    obtain ⟨q3, c3, rfl⟩ := hi3.form
    have HI3 := Lib.hid hi3
    have HB3 := Lib.hid (HB2.out.trans (hb3.mono HB2.out.size))
    have HR3 := Lib.hid ((hb3.block w.heap.size hs2).trans HR2.out)
    have hst : PtRel S.cells.length L (rvT t) w3 (.int .i64 ((0 : Nat) : Int)) w3 := ⟨0, by omega, rfl, fun x hx => by simp at hx, Below.refl _ _⟩
    have HST := Lib.hid hst
    clear hst hi3 hb3 x0 x1 x2 x3 HB2 HR2
    obtain ⟨l, hl⟩ : ∃ l, l = rvT t := ⟨_, rfl⟩
    rw [← hl] at HI3 HST hvl ⊢
    have HLV := Lib.hid hl
    clear hl
    go_wp2
    go_loopw [24] (fun v24 wr => PtRel S.cells.length L l w3 v24 wr) (fun v24 _ => l.length - (intOf v24).toNat)
    case atStart => exact HST.out
    case round =>
      clear HST
      obtain ⟨i, hi, rfl, hno, hbr⟩ := hrel
      have HNO := Lib.hid hno
      have HBR := Lib.hid hbr
      have HBW := Lib.hid (HB3.out.trans (hbr.mono HB3.out.size))
      clear hno hbr
      by_cases hil : i < l.length
      · have b1 : decide ((i : Int) < (l.length : Int)) = true := by simp; omega
        obtain ⟨b, off, e', hcx⟩ := ints_pickA (IntSl.move (P' := fun b => w2.heap.size ≤ b) HI3.out (fun b hb _ => hb) fun b _ hlt => HBR.out.block b hlt) i hil
        obtain rfl := e'
        have hrm := ints_roomA HI3.out
        obtain ⟨y, hy⟩ : ∃ y, y = l[i] := ⟨_, rfl⟩
        rw [← hy] at hcx
        have hmem : y ∈ l := by rw [hy]; exact List.getElem_mem hil
        have HY := Lib.hid hy
        clear hy
        go_wp2_with fail
        refine (ref_find _ _ _ L y (Own.below HL.out HBW.out) (by omega)).mono ?_
        rintro e4 w4 ⟨rfl, hb4⟩
        have HB4 := Lib.hid (HBW.out.trans (hb4.mono HBW.out.size))
        have HC4 := Lib.hid (HBR.out.trans (hb4.mono HBR.out.size))
        clear hb4 hcx
        go_wp2_with fail
        refine (ref_has _ _ _ L y (Own.below HL.out HB4.out) (by omega)).mono ?_
        rintro e5 w5 ⟨rfl, hb5⟩
        have HB5 := Lib.hid (HB4.out.trans (hb5.mono HB4.out.size))
        have HC5 := Lib.hid (HC4.out.trans (hb5.mono HC4.out.size))
        clear hb5 HB4 HC4
        obtain ⟨m, hm⟩ : ∃ m, m = (mget L y).getD (-1) := ⟨_, rfl⟩
        have HMM := Lib.hid hm
        rw [← hm]
        clear hm
        have hnext : lostR S.cells.length L y = false → ∀ x ∈ l.take (i + 1), lostR S.cells.length L x = false := fun h x hx => by
          rw [List.take_succ_eq_append_getElem hil, List.mem_append, List.mem_singleton] at hx
          rcases hx with hx | rfl
          · exact HNO.out x hx
          · rw [← HY.out]; exact h
        have HNX := Lib.hid hnext
        clear hnext
        cases his : (mget L y).isSome with
        | false =>
          have hlo : lostR S.cells.length L y = false := by unfold lostR; rw [his]; rfl
          have HN1 := Lib.hid (HNX.out hlo)
          clear his hlo
          go_wp2
          go_roundw
          case measure => simp [intOf]; omega
          case rel => exact ⟨i + 1, by omega, rfl, HN1.out, HC5.out⟩
        | true =>
          have HIS := Lib.hid his
          clear his
          go_wp2_with fail
          refine (ref_there _ (HS.out.below HB5.out) m).mono ?_
          rintro e6 w6 ⟨rfl, rfl⟩
          cases hth : (decide (0 ≤ m) && decide (m < (S.cells.length : Int))) with
          | true =>
            have hlo : lostR S.cells.length L y = false := by unfold lostR; rw [HIS.out, ← HMM.out, hth]; rfl
            have HN1 := Lib.hid (HNX.out hlo)
            clear hth hlo
            go_wp2
            go_roundw
            case measure => simp [intOf]; omega
            case rel => exact ⟨i + 1, by omega, rfl, HN1.out, HC5.out⟩
          | false =>
            have hlo : lostR S.cells.length L y = true := by unfold lostR; rw [HIS.out, ← HMM.out, hth]; rfl
            have hrp : rPut T0 S L t = ((0, 2), [], L) := by
              unfold rPut
              rw [if_neg (by rw [HC.out]; simp), if_pos (by rw [← HLV.out]; exact List.any_eq_true.2 ⟨y, hmem, hlo⟩)]
            have HRP := Lib.hid hrp
            have HF := Lib.hid (RpDid.same HS.out HL.out HVD.out HB5.out)
            clear hth hlo hrp
            go_wp2
            go_ret3
            rw [HRP.out]
            exact ⟨_, D, rfl, HF.out⟩
      · have b1 : decide ((i : Int) < (l.length : Int)) = false := by simp; omega
        have e' : i = l.length := by omega
        subst e'
        have hno := HNO.out
        rw [List.take_length] at hno
        have hany : ¬ (rvT t).any (lostR S.cells.length L) = true := by
          rw [← HLV.out]
          intro h
          obtain ⟨x, h1, h2⟩ := List.any_eq_true.1 h
          rw [hno x h1] at h2
          cases h2
        have HANY := Lib.hid hany
        clear hany hno
        go_upto_region 11 with fail
        refine wp_region_rest (by kernel_rfl) ?_
        have hdr := (Below.refl wr.heap.size wr).drew
        have HBD := Lib.hid (HBW.out.trans (hdr.mono HBW.out.size))
        have HRD := Lib.hid ((hdr.block w.heap.size (by have := HBR.out.size; have := (Array.getElem?_eq_some_iff.1 HR3.out).1; omega)).trans ((HBR.out.block w.heap.size (Array.getElem?_eq_some_iff.1 HR3.out).1).trans HR3.out))
        have hzd := HBD.out.size
        have hzr : w.heap.size < wr.drew.heap.size := (Array.getElem?_eq_some_iff.1 HRD.out).1
        clear hdr HBR HBW HR3 HB3 HI3
        generalize wr.drew = W0 at *
        have hs0 := HS.out.below HBD.out
        obtain ⟨cv, bv, A, hrow⟩ := hs0
        obtain ⟨qc, cap, rfl⟩ := own_form hrow.own
        have HROW := Lib.hid hrow
        clear hrow
        have hvl2 := hvl
        rw [HLV.out] at hvl2
        refine rest_chainP (fun u => Below W0.heap.size W0 u) 0 13 (.soft 0 (.soft 1 (.soft 3 (.soft 4 (.soft 5 (.soft 6 (.soft 7 (.soft 8 (.soft 9 (.soft 10 (.soft 11 (.soft 12 (.one 2 .nil))))))))))))) (.soft _ (.soft _ (.soft _ (.soft _ (.soft _ (.soft _ (.soft _ (.soft _ (.soft _ (.soft _ (.soft _ (.soft _ (.one _ .nil))))))))))))) ⟨rfl, ⟨rfl, ⟨rfl, ⟨rfl, ⟨rfl, ⟨rfl, ⟨rfl, ⟨rfl, ⟨rfl, ⟨rfl, ⟨rfl, ⟨rfl, ⟨rfl, trivial⟩⟩⟩⟩⟩⟩⟩⟩⟩⟩⟩⟩⟩ (by kernel_rfl) (by kernel_rfl) (by kernel_rfl) (by kernel_rfl) (.inr (by kernel_rfl)) (Below.refl _ _) ?_
        refine chainP_soft (a1 := ?ma12) (by kernel_rfl) (by kernel_rfl) ?mh12 ?mr12
        case mh12 =>
          intro u hu E hE
          obtain ⟨y0, y1, y2, y3⟩ := row4 ((hu.block w.heap.size hzr).trans HRD.out)
          go_wp2
          rfl
        refine chainP_soft (a1 := ?ma13) (by kernel_rfl) (by kernel_rfl) ?mh13 ?mr13
        case mh13 =>
          intro u hu E hE
          go_wp2
          rfl
        refine chainP_soft (a1 := ?ma14) (by kernel_rfl) (by kernel_rfl) ?mh14 ?mr14
        case mh14 =>
          intro u hu E hE
          go_wp2
          rfl
        refine chainP_nck _ _ rfl rfl rfl ?_
        simp only [Act.put, List.getElem?_toArray, List.getElem?_cons_succ, List.getElem?_cons_zero, Option.bind_some, List.setIfInBounds_toArray, List.set_cons_succ, List.set_cons_zero, Nat.reduceAdd]
        refine chainP_soft (a1 := ?ma15) (by kernel_rfl) (by kernel_rfl) ?mh15 ?mr15
        case mh15 =>
          intro u hu E hE
          go_wp2
          rfl
        refine chainP_soft (a1 := ?ma16) (by kernel_rfl) (by kernel_rfl) ?mh16 ?mr16
        case mh16 =>
          intro u hu E hE
          obtain ⟨y0, y1, y2⟩ := row3 (HROW.out.below hu).row
          go_wp2
          rfl
        refine chainP_soft (a1 := ?ma17) (by kernel_rfl) (by kernel_rfl) ?mh17 ?mr17
        case mh17 =>
          intro u hu E hE
          go_wp2
          rfl
        refine chainP_nck _ _ rfl rfl rfl ?_
        simp only [Act.put, List.getElem?_toArray, List.getElem?_cons_succ, List.getElem?_cons_zero, Option.bind_some, List.setIfInBounds_toArray, List.set_cons_succ, List.set_cons_zero, Nat.reduceAdd]
        refine chainP_soft (a1 := ?ma18) (by kernel_rfl) (by kernel_rfl) ?mh18 ?mr18
        case mh18 =>
          intro u hu E hE
          go_wp2
          rfl
        refine chainP_soft (a1 := ?ma19) (by kernel_rfl) (by kernel_rfl) ?mh19 ?mr19
        case mh19 =>
          intro u hu E hE
          obtain ⟨y0, y1, y2⟩ := row3 (HROW.out.below hu).row
          go_wp2
          rfl
        refine chainP_soft (a1 := ?ma20) (by kernel_rfl) (by kernel_rfl) ?mh20 ?mr20
        case mh20 =>
          intro u hu E hE
          go_wp2
          rfl
        refine chainP_soft (a1 := ?ma21) (by kernel_rfl) (by kernel_rfl) ?mh21 ?mr21
        case mh21 =>
          intro u hu E hE
          go_wp2
          rfl
        refine chainP_one ?_
        intro E hE
        go_wp2_with fail
        refine (ref_need _ _ _ L (Own.below HL.out HBD.out) (by omega) (IsTm.below HT.out HBD.out) (by omega) hvl2).mono ?_
        rintro e7 w7 ⟨rfl, hb7⟩
        go_wp2
        refine ⟨hb7, ?_⟩
        have HB7 := Lib.hid (HBD.out.trans (hb7.mono HBD.out.size))
        have HR7 := Lib.hid ((hb7.block w.heap.size hzr).trans HRD.out)
        clear hb7 HROW
        refine chainP_nil ?_
        refine rest_lineL 13 14 [_] rfl (by kernel_rfl) (by decide) (by decide) (by kernel_rfl) ?_
        obtain ⟨nd, hnd⟩ : ∃ nd, nd = needR L t := ⟨_, rfl⟩
        rw [← hnd]
        have HND := Lib.hid hnd
        clear hnd
        by_cases hfit : S.room - (S.cells.length : Int) < (nd : Int)
        · have b2 : decide (S.room - (S.cells.length : Int) < (nd : Int)) = true := by simpa using hfit
          have hrp : rPut T0 S L t = ((0, 9), [], L) := by
            unfold rPut
            rw [if_neg (by rw [HC.out]; simp), if_neg HANY.out, if_pos (by rw [← HND.out]; exact hfit)]
          have HRP := Lib.hid hrp
          have HF := Lib.hid (RpDid.same HS.out HL.out HVD.out HB7.out)
          clear hfit hrp
          go_wp2
          refine then_rest (rest_end (by decide) ?_)
          go_wp2
          go_ret3
          rw [HRP.out]
          exact ⟨_, D, rfl, HF.out⟩
        · have b2 : decide (S.room - (S.cells.length : Int) < (nd : Int)) = false := by simpa using hfit
          have hrp : rPut T0 S L t = (((putT (fun _ => none) T0 S.cells.length L t).1, 0), (putT (fun _ => none) T0 S.cells.length L t).2.1, (putT (fun _ => none) T0 S.cells.length L t).2.2) := by
            unfold rPut
            rw [if_neg (by rw [HC.out]; simp), if_neg HANY.out, if_neg (by rw [← HND.out]; exact hfit)]
          have hn := HNL.out HC.out
          rw [← HND.out] at hn
          have hq := ref_put T0 p base t.size t S D L (.slice q L.length c) _ (fun b => P b ∧ b < w.heap.size) w7 (Nat.le_refl _) (check_may HC.out) (HS.out.below HB7.out) (Own.below HL.out HB7.out) HVD.out (by have := HB7.out.size; omega) HL0.out hLl (IsTm.below HT.out HB7.out) (fun b hb => HP.out b hb.1) hlen (by omega)
          obtain ⟨x0, x1, x2, x3⟩ := row4 HR7.out
          have HRP := Lib.hid hrp
          have HQ := Lib.hid hq
          clear hfit hrp hq hn
          go_wp2
          refine then_rest (rest_end (by decide) ?_)
          go_wp2_with fail
          refine HQ.out.mono ?_
          rintro e8 w8 ⟨v8, D8, rfl, h8⟩
          obtain ⟨q8, c8, rfl⟩ := own_form h8.prs
          have hk := (Keeps.of (M := fun b => D b ∨ (Value.slice q L.length c).ownBlock = some b) HB7.out).trans h8.kp fun b hb => .inl hb
          have hfin : RpDid w D p base ⟨S.room, S.cells ++ (putT (fun _ => none) T0 S.cells.length L t).2.1, S.bonds⟩ (putT (fun _ => none) T0 S.cells.length L t).2.2 (.slice q L.length c) (.slice q8 (putT (fun _ => none) T0 S.cells.length L t).2.2.length c8) D8 w8 :=
            ⟨h8.ref, h8.prs, hk, fun b hb => (h8.dn b hb).imp id fun h => ⟨by have := HB7.out.size; omega, h.2⟩, fun k e => (h8.vo k e).imp id fun h => by have := HB7.out.size; omega, h8.vd⟩
          have HF := Lib.hid hfin
          clear h8 hk hfin x0 x1 x2 x3
          dsimp only
          go_wp2
          go_ret3
          rw [HRP.out]
          exact ⟨_, D8, rfl, HF.out⟩
  · have e1 : (checkT t != 0) = true := by simpa using hc
    have hrp : rPut T0 S L t = ((0, checkT t), [], L) := if_pos hc
    have HF := Lib.hid (RpDid.same HS.out HL.out HVD.out HB2.out)
    have HRP := Lib.hid hrp
    clear hc hrp hr2 HB HR
    go_wp2
    go_ret3
    rw [HRP.out]
    exact ⟨_, D, rfl, HF.out⟩
end Go.Proofs.Ytoklbeogmcdgaaa.Tms
