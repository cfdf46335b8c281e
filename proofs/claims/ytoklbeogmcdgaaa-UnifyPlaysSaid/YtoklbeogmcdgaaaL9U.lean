
/-
  UnifyPlays, walked over the program and the reference.
-/
import Derived.Test.YtoklbeogmcdgaaaPuv
import Derived.Test.YtoklbeogmcdgaaaGr9
import Derived.Test.YtoklbeogmcdgaaaUal
import Derived.Test.YtoklbeogmcdgaaaTwo
namespace Go.Proofs.Ytoklbeogmcdgaaa.Tms
open Go Go.RowKit Go.Proofs.Ytoklbeogmcdgaaa.Reg Go.Proofs.Ytoklbeogmcdgaaa.Rws Go.Proofs.Ytoklbeogmcdgaaa.Maps
set_option linter.unusedVariables false
set_option linter.unusedSimpArgs false

/-- a slice of bools -/
def BlSl (w : World) (v : Value) (l : List Bool) : Prop :=
  ∃ a cap, v = .slice a l.length cap ∧ l.length ≤ cap ∧ cap ≤ maxLen ∧ ∀ j (h : j < l.length), ∃ b off, a = some ⟨b, off, none⟩ ∧ b < w.heap.size ∧ w.cell? ⟨b, off + j, none⟩ = some (.bool l[j])
theorem BlSl.below {w w' : World} {v : Value} {l : List Bool} (h : BlSl w v l) (hb : Below w.heap.size w w') : BlSl w' v l := by
  obtain ⟨a, cap, e, h1, h2, h3⟩ := h
  refine ⟨a, cap, e, h1, h2, fun j hj => ?_⟩
  obtain ⟨b, off, e1, hl, c0⟩ := h3 j hj
  exact ⟨b, off, e1, Nat.lt_of_lt_of_le hl hb.size, (World.cell?_of_block (w := w) (w' := w') (a := ⟨b, off + j, none⟩) (hb.block b hl)).trans c0⟩
theorem BlSl.at {w : World} {n c : Nat} {q : Option Addr} {l : List Bool} (h : BlSl w (.slice q n c) l) (j : Nat) (hj : j < l.length) : ∃ b off, q = some ⟨b, off, none⟩ ∧ w.cell? ⟨b, off + j, none⟩ = some (.bool l[j]) := by
  obtain ⟨a, cap, e, h1, h2, h3⟩ := h
  obtain ⟨b, off, e1, hl, c0⟩ := h3 j hj
  simp only [Value.slice.injEq] at e
  obtain ⟨rfl, -, -⟩ := e
  exact ⟨b, off, e1, c0⟩
theorem grU_no {l : List (List Pt × List Pt)} (h : grP l = false) : l.length ≤ 20 ∧ ∀ j (hj : j < l.length), l[j].1.length ≤ 60 ∧ l[j].2.length ≤ 60 := by
  unfold grP at h
  rw [Bool.or_eq_false_iff, List.any_eq_false] at h
  refine ⟨by have := h.2; simp at this; omega, fun j hj => ?_⟩
  have := h.1 l[j] (List.getElem_mem hj)
  unfold prG at this
  simp at this
  omega
/-- both stores behind so many pairs -/
def UyMid (w : World) (p q mb j : Nat) (v12 : Value) (wr : World) : Prop := ∃ (S : Sto) (M : List (Int × Int)) (Z : Nat → Prop), Inv S ∧ KOk M ∧ M.length ≤ 842 * j ∧ PlAt w p q mb S S M M v12 Z wr
def UyRel (w : World) (p q mb n : Nat) (v65 v12 : Value) (wr : World) : Prop := ∃ i : Nat, i ≤ n ∧ v65 = .int .i64 i ∧ UyMid w p q mb i v12 wr
/-- the cells so far -/
def UcRel (w : World) (p q mb : Nat) (S : Sto) (M : List (Int × Int)) (pv : Value) (Z : Nat → Prop) (v181 : Value) (wr : World) : Prop := ∃ x : Nat, x ≤ S.cells.length ∧ v181 = .int .i64 x ∧ PlAt w p q mb S S M M pv Z wr
theorem PlAt.made {w0 w w' : World} {p q mb : Nat} {S R : Sto} {M N : List (Int × Int)} {pv : Value} {Z : Nat → Prop} (h : PlAt w0 p q mb S R M N pv Z w) (hb : Below w.heap.size w w') {v : Value} {t : Tm} (hi : IsTm w' (fun b => False ∨ w.heap.size ≤ b) v t) : IsTm w' (Free Z w') v t :=
  IsTm.imp hi.low (fun b hb' => (h.below hb).2.2 b (by rcases hb'.1 with e | e; exact e.elim; exact e) hb'.2) fun _ _ _ => rfl
theorem hasAt_pair {w : World} {g : Nat} {y0 y1 : Value} {T : TypeId} (h : w.heap[g]? = some (.cells #[y0, y1] T (0, 0))) : w.cell? ⟨g, 0, none⟩ = some y0 ∧ w.cell? ⟨g, 1, none⟩ = some y1 := ⟨cell_of_row w g 0 _ _ _ h, cell_of_row w g 1 _ _ _ h⟩
set_option maxRecDepth 100000 in
set_option maxHeartbeats 4000000 in
theorem law_uplays (l : List (List Pt × List Pt)) (sf : List Bool) (vv at_ : Int) (u1 u2 : Value) (w : World) (h1 : PrSl w u1 l) (h2 : BlSl w u2 sf) : Calls Try.prog 11 #[.agg #[u1, u2, .int .i64 vv, .int .i64 at_]] w (Says true w) := by
  obtain ⟨a1, c1, rfl, hc1, hm1⟩ := h1.form
  obtain ⟨a2, c2, rfl, hc2, hm2, -⟩ := id h2
  unfold maxLen at hm1 hm2
  have hbN := below_new w (.cells #[.slice a1 l.length c1, .slice a2 sf.length c2, .int .i64 vv, .int .i64 at_] 87 (0, 0))
  have hrN := heap_alloc_new w (.cells #[.slice a1 l.length c1, .slice a2 sf.length c2, .int .i64 vv, .int .i64 at_] 87 (0, 0))
  have H1 := Lib.hid h1
  have H2 := Lib.hid h2
  have HBN := Lib.hid hbN
  have HRN := Lib.hid hrN
  clear h1 h2 hbN hrN
  go_enter Try.func11, Try.ntmps11
  go_wp2_with fail
  generalize w.alloc (.cells #[.slice a1 l.length c1, .slice a2 sf.length c2, .int .i64 vv, .int .i64 at_] 87 (0, 0)) = w0 at *
  refine (alive9 _).mono ?_
  rintro e1 w1 ⟨rfl, hb1⟩
  have hlt0 : w.heap.size < w0.heap.size := (Array.getElem?_eq_some_iff.1 HRN.out).1
  go_upto_region 3 with fail
  refine wp_region_rest (by kernel_rfl) ?_
  have hdb : Below w0.heap.size w0 w1.drew := hb1.trans ((Below.refl w1.heap.size w1).drew.mono hb1.size)
  have HB0 := Lib.hid (HBN.out.trans (hdb.mono HBN.out.size))
  have hrow := (hdb.block w.heap.size hlt0).trans HRN.out
  clear hdb hb1
  generalize w1.drew = W0 at *
  obtain ⟨x0, x1, x2, x3⟩ := row4r hrow
  clear hrow
  refine rest_chainP (fun u => u = W0) 0 11 (.soft 0 (.soft 1 (.soft 2 (.soft 3 (.soft 4 (.soft 5 (.soft 6 (.soft 7 (.soft 8 (.soft 9 (.soft 10 .nil))))))))))) (.soft _ (.soft _ (.soft _ (.soft _ (.soft _ (.soft _ (.soft _ (.soft _ (.soft _ (.soft _ (.soft _ .nil))))))))))) ⟨rfl, ⟨rfl, ⟨rfl, ⟨rfl, ⟨rfl, ⟨rfl, ⟨rfl, ⟨rfl, ⟨rfl, ⟨rfl, ⟨rfl, trivial⟩⟩⟩⟩⟩⟩⟩⟩⟩⟩⟩ (by kernel_rfl) (by kernel_rfl) (by kernel_rfl) (by kernel_rfl) (.inr (by kernel_rfl)) rfl ?_
  refine chainP_soft (a1 := ?ma1) (by kernel_rfl) (by kernel_rfl) ?mh1 ?mr1
  case mh1 =>
    intro u hu E hE
    subst hu
    go_wp2
    rfl
  refine chainP_soft (a1 := ?ma2) (by kernel_rfl) (by kernel_rfl) ?mh2 ?mr2
  case mh2 =>
    intro u hu E hE
    subst hu
    go_wp2
    rfl
  refine chainP_soft (a1 := ?ma3) (by kernel_rfl) (by kernel_rfl) ?mh3 ?mr3
  case mh3 =>
    intro u hu E hE
    subst hu
    go_wp2
    rfl
  refine chainP_soft (a1 := ?ma4) (by kernel_rfl) (by kernel_rfl) ?mh4 ?mr4
  case mh4 =>
    intro u hu E hE
    subst hu
    go_wp2
    rfl
  refine chainP_soft (a1 := ?ma5) (by kernel_rfl) (by kernel_rfl) ?mh5 ?mr5
  case mh5 =>
    intro u hu E hE
    subst hu
    go_wp2
    rfl
  refine chainP_soft (a1 := ?ma6) (by kernel_rfl) (by kernel_rfl) ?mh6 ?mr6
  case mh6 =>
    intro u hu E hE
    subst hu
    go_wp2
    rfl
  refine chainP_soft (a1 := ?ma7) (by kernel_rfl) (by kernel_rfl) ?mh7 ?mr7
  case mh7 =>
    intro u hu E hE
    subst hu
    go_wp2
    rfl
  refine chainP_soft (a1 := ?ma8) (by kernel_rfl) (by kernel_rfl) ?mh8 ?mr8
  case mh8 =>
    intro u hu E hE
    subst hu
    go_wp2
    rfl
  refine chainP_soft (a1 := ?ma9) (by kernel_rfl) (by kernel_rfl) ?mh9 ?mr9
  case mh9 =>
    intro u hu E hE
    subst hu
    go_wp2
    rfl
  refine chainP_soft (a1 := ?ma10) (by kernel_rfl) (by kernel_rfl) ?mh10 ?mr10
  case mh10 =>
    intro u hu E hE
    subst hu
    go_wp2
    rfl
  refine chainP_soft (a1 := ?ma11) (by kernel_rfl) (by kernel_rfl) ?mh11 ?mr11
  case mh11 =>
    intro u hu E hE
    subst hu
    go_wp2
    rfl
  refine chainP_nil ?_
  refine rest_lineL 11 12 [_] rfl (by kernel_rfl) (by decide) (by decide) (by kernel_rfl) ?_
  go_wp2
  refine then_rest (rest_end (by decide) ?_)
  clear x0 x1 x2 x3 HRN hlt0 HBN
  go_wp2_with fail
  refine (great9 l _ _ (H1.out.below HB0.out)).mono ?_
  rintro e2 w2 ⟨rfl, hb2⟩
  have HB2 := Lib.hid (HB0.out.trans (hb2.mono HB0.out.size))
  clear hb2 HB0
  cases hg : grP l with
  | true =>
    clear hg
    go_wp2
    go_ret
    exact ⟨rfl, HB2.out⟩
  | false =>
  have HGN := Lib.hid (grU_no hg)
  have hll : l.length ≤ 20 := HGN.out.1
  clear hg
  go_wp2_with fail
  refine (law_NewG w w2 HB2.out 5000 (by decide) (by decide)).mono ?_
  rintro e3 w3 ⟨rfl, D, h3, hb3, -⟩
  have HB3 := Lib.hid (HB2.out.trans (hb3.mono HB2.out.size))
  have H3 := Lib.hid h3
  clear h3 hb3
  generalize w2.heap.size = p at *
  dsimp only
  go_wp2_with fail
  refine (ref8_New w w3 HB3.out 5000 (by decide) (by decide)).mono ?_
  rintro e4 w4 ⟨rfl, E, h4, hb4, hf4⟩
  obtain ⟨Z0, hst⟩ := pl_start H3.out h4 hb4 hf4
  have hpy : UyRel w p w3.heap.size w4.heap.size l.length (.int .i64 ((0 : Nat) : Int)) (.slice none 0 0) (w4.alloc (.map #[] 0)) :=
    ⟨0, by omega, rfl, _, _, Z0, Inv.new _ (by decide) (by decide), KOk.nil, by simp, hst⟩
  have HPY := Lib.hid hpy
  clear h4 hb4 hf4 hst hpy H3 HB3 HB2
  generalize w3.heap.size = q at *
  dsimp only
  go_wp2_with (with_reducible show wpList _ _ _ (⟨some 62, _, _, _, _, _⟩ :: _) _ _
               refine wpList_imap_made rfl _ rfl ?_)
  generalize w4.alloc (.map #[] 0) = w5 at *
  generalize w4.heap.size = mb at *
  go_loopw [65, 12] (fun v65 v12 wr => UyRel w p q mb l.length v65 v12 wr) (fun v65 _ _ => l.length - (intOf v65).toNat)
  case atStart => exact HPY.out
  case round =>
    clear HPY
    obtain ⟨i, hi, rfl, S, M, Z, hI, hK, hMl, hP⟩ := hrel
    obtain ⟨qv, cv, ev⟩ := own_form hP.prs
    subst ev
    have HI := Lib.hid hI
    have HK := Lib.hid hK
    have HP := Lib.hid hP
    clear hI hK hP
    by_cases hil : i < l.length
    · have b1 : decide ((i : Int) < (l.length : Int)) = true := by simp; omega
      obtain ⟨LA, LB, hop⟩ : ∃ LA LB, l[i] = (LA, LB) := ⟨_, _, rfl⟩
      have hLA : LA.length ≤ 60 := by have := (HGN.out.2 i hil).1; rw [hop] at this; exact this
      have hLB : LB.length ≤ 60 := by have := (HGN.out.2 i hil).2; rw [hop] at this; exact this
      obtain ⟨aa, cap, ee, -, -, hel⟩ := id H1.out
      simp only [Value.slice.injEq, true_and] at ee
      obtain ⟨b, off, ua, ub, e1, hbl, x0, x1, hpa, hpb⟩ := hel i hil
      rw [hop] at hpa hpb
      dsimp only at hpa hpb
      obtain ⟨a3, c3, rfl, -, -⟩ := hpa.form
      obtain ⟨a4, c4, rfl, -, -⟩ := hpb.form
      have e1' : a1 = some ⟨b, off, none⟩ := ee.1.trans e1
      subst e1'
      replace x0 := (HP.out.bel.cell (p := ⟨b, off + i * 2, none⟩) hbl).trans x0
      replace x1 := (HP.out.bel.cell (p := ⟨b, off + i * 2 + 1, none⟩) hbl).trans x1
      have HPA := Lib.hid hpa
      have HPB := Lib.hid hpb
      clear hop hel hpa hpb ee e1
      have hba := below_new wr (.cells #[.slice a3 LA.length c3, .slice a4 LB.length c4] 78 (0, 0))
      have hna := heap_alloc_new wr (.cells #[.slice a3 LA.length c3, .slice a4 LB.length c4] 78 (0, 0))
      obtain ⟨hP5, st5, hf5⟩ := HP.out.below hba
      have HR5 := Lib.hid (show RowF Z _ wr.heap.size _ from ⟨hf5 _ (Nat.le_refl _) (by simp), hna⟩)
      have HP5 := Lib.hid hP5
      obtain ⟨tA, htA⟩ : ∃ t, t = goodT LA := ⟨_, rfl⟩
      obtain ⟨tB, htB⟩ : ∃ t, t = goodT LB := ⟨_, rfl⟩
      have sA : tA.size ≤ 421 := by have := goodT_size LA; rw [htA]; omega
      have sB : tB.size ≤ 421 := by have := goodT_size LB; rw [htB]; omega
      have rA : (rvT tA).length ≤ 1000000 := by have := rvT_len tA; omega
      have rB : (rvT tB).length ≤ 1000000 := by have := rvT_len tB; omega
      have HTA := Lib.hid htA
      have HTB := Lib.hid htB
      obtain ⟨y0, y1⟩ := hasAt_pair HR5.out.2
      have hk1 := HK.out.put S tA
      have hi1 := (HI.out.putW M tA).1
      obtain ⟨S1, hS1⟩ : ∃ S1, S1 = putW S M tA := ⟨_, rfl⟩
      obtain ⟨M1, hM1⟩ : ∃ M1, M1 = M ++ putN S M tA := ⟨_, rfl⟩
      rw [← hM1] at hk1
      rw [← hS1] at hi1
      have HS1 := Lib.hid hS1
      have HM1 := Lib.hid hM1
      have HK1 := Lib.hid hk1.1
      have hk2 := hk1.1.put S1 tB
      have hm1 : M1.length ≤ 842 * i + 421 := by have := hk1.2; omega
      have HI1 := Lib.hid hi1
      have hi2 := (hi1.putW M1 tB).1
      obtain ⟨S2, hS2⟩ : ∃ S2, S2 = putW S1 M1 tB := ⟨_, rfl⟩
      obtain ⟨M2, hM2⟩ : ∃ M2, M2 = M1 ++ putN S1 M1 tB := ⟨_, rfl⟩
      rw [← hM2] at hk2
      rw [← hS2] at hi2
      have HS2 := Lib.hid hS2
      have HM2 := Lib.hid hM2
      have hm2 : M2.length ≤ 842 * (i + 1) := by have := hk2.2; omega
      have HIS := Lib.hid hi2
      have HKS := Lib.hid hk2.1
      obtain ⟨w6, hw6⟩ : ∃ w6, w6 = wr.alloc (.cells #[.slice a3 LA.length c3, .slice a4 LB.length c4] 78 (0, 0)) := ⟨_, rfl⟩
      have HG5 := Lib.hid (ref_good LA _ _ (by omega) (HPA.out.below HP5.out.bel))
      clear hba hna hP5 st5 hf5 htA htB hk1 hk2 hi1 hi2 hS1 hM1 hS2 hM2
      go_upto_region 13 with fail
      rw [← hw6] at HP5 HR5 HG5 y0 y1 ⊢
      clear hw6 x0 x1 HP
      obtain ⟨r14, hr14⟩ : ∃ r, r = wr.heap.size := ⟨_, rfl⟩
      rw [← hr14] at HR5 y0 y1 ⊢
      clear hr14
      -- the program puts A
      go_wp2_with fail
      refine HG5.out.mono ?_
      rintro e7 w7 ⟨v7, rfl, hi7, hb7⟩
      obtain ⟨a7, c7, rfl⟩ := hi7.form
      rw [← HTA.out] at hi7 ⊢
      have HI7 := Lib.hid (HP5.out.made hb7 hi7)
      have HP7 := Lib.hid (HP5.out.below hb7).1
      have HR7 := Lib.hid (HR5.out.step (HP5.out.below hb7).2.1)
      clear hi7 hb7 HG5 HP5 HR5 y0 y1
      go_wp2_with fail
      refine (pl_Put HP7.out HI.out HK.out.nd HI7.out (by omega)).mono ?_
      rintro e8 w8 ⟨rfl, Z8, hp8, st8⟩
      rw [← HS1.out, ← HM1.out] at hp8
      have HP8 := Lib.hid hp8
      have HR8 := Lib.hid (HR7.out.step st8)
      obtain ⟨y0, y1⟩ := hasAt_pair HR8.out.2
      have HG8 := Lib.hid (ref_good LB _ _ (by omega) (HPB.out.below HP8.out.bel))
      clear hp8 st8 HP7 HI7 HR7
      dsimp only
      -- and B
      go_wp2_with fail
      refine HG8.out.mono ?_
      rintro e9 w9 ⟨v9, rfl, hi9, hb9⟩
      obtain ⟨a9, c9, rfl⟩ := hi9.form
      rw [← HTB.out] at hi9 ⊢
      have HI9 := Lib.hid (HP8.out.made hb9 hi9)
      have HP9 := Lib.hid (HP8.out.below hb9).1
      have HR9 := Lib.hid (HR8.out.step (HP8.out.below hb9).2.1)
      clear hi9 hb9 HG8 HP8 HR8 y0 y1
      go_wp2_with fail
      refine (pl_Put HP9.out HI1.out HK1.out.nd HI9.out (by omega)).mono ?_
      rintro e10 w10 ⟨rfl, Z10, hp10, st10⟩
      rw [← HS2.out, ← HM2.out] at hp10
      have HP10 := Lib.hid hp10
      have HR10 := Lib.hid (HR9.out.step st10)
      obtain ⟨y0, y1⟩ := hasAt_pair HR10.out.2
      have HG10 := Lib.hid (ref_good LA _ _ (by omega) (HPA.out.below HP10.out.bel))
      clear hp10 st10 HP9 HI9 HR9
      dsimp only
      -- the reference puts A
      go_wp2_with fail
      refine HG10.out.mono ?_
      rintro e11 w11 ⟨v11, rfl, hi11, hb11⟩
      obtain ⟨a11, c11, rfl⟩ := hi11.form
      rw [← HTA.out] at hi11 ⊢
      have HI11 := Lib.hid (HP10.out.made hb11 hi11)
      have HP11 := Lib.hid (HP10.out.below hb11).1
      have HR11 := Lib.hid (HR10.out.step (HP10.out.below hb11).2.1)
      clear hi11 hb11 HG10 HP10 HR10 y0 y1
      go_wp2_with fail
      refine (pl_PutR HP11.out HI.out HK.out.pos HI11.out (by omega) rA).mono ?_
      rintro e12 w12 ⟨pv12, rfl, Z12, hp12, st12⟩
      rw [← HS1.out, ← HM1.out] at hp12
      obtain ⟨q12, c12, e12⟩ := own_form hp12.prs
      subst e12
      have HP12 := Lib.hid hp12
      have HR12 := Lib.hid (HR11.out.step st12)
      obtain ⟨y0, y1⟩ := hasAt_pair HR12.out.2
      have HG12 := Lib.hid (ref_good LB _ _ (by omega) (HPB.out.below HP12.out.bel))
      clear hp12 st12 HP11 HI11 HR11
      dsimp only
      -- and B
      go_wp2_with fail
      refine HG12.out.mono ?_
      rintro e13 w13 ⟨v13, rfl, hi13, hb13⟩
      obtain ⟨a13, c13, rfl⟩ := hi13.form
      rw [← HTB.out] at hi13 ⊢
      have HI13 := Lib.hid (HP12.out.made hb13 hi13)
      have HP13 := Lib.hid (HP12.out.below hb13).1
      clear hi13 hb13 HG12 HP12 HR12 y0 y1
      go_wp2_with fail
      refine (pl_PutR HP13.out HI1.out HK1.out.pos HI13.out (by omega) rB).mono ?_
      rintro e14 w14 ⟨pv14, rfl, Z14, hp14, st14⟩
      rw [← HS2.out, ← HM2.out] at hp14
      obtain ⟨q14, c14, e14⟩ := own_form hp14.prs
      subst e14
      obtain ⟨x, hx⟩ : ∃ x, x = (putA S M tA).1 := ⟨_, rfl⟩
      obtain ⟨ex, hex⟩ : ∃ x, x = (putA S M tA).2 := ⟨_, rfl⟩
      obtain ⟨y, hy⟩ : ∃ x, x = (putA S1 M1 tB).1 := ⟨_, rfl⟩
      obtain ⟨ey, hey⟩ : ∃ x, x = (putA S1 M1 tB).2 := ⟨_, rfl⟩
      rw [← hx, ← hex, ← hy, ← hey]
      have HP14 := Lib.hid hp14
      clear hp14 st14 HP13 HI13 HI1 HK1 hx hex hy hey HI HK HS1 HM1 HS2 HM2
      have b2 : ((x != x) = false) := by simp
      have b3 : ((y != y) = false) := by simp
      have b4 : ((ex != ex) = false) := by simp
      have b5 : ((ey != ey) = false) := by simp
      dsimp only
      go_upto_region 20 with fail
      obtain ⟨own, hown⟩ : ∃ own : Bool, own = (sf[i]?).getD false := ⟨_, rfl⟩
      have HOWN := Lib.hid hown
      clear hown
      go_cut [25] from 127 to 136 (fun v wx => v = .bool own ∧ w14 = wx)
      case first =>
        by_cases his : i < sf.length
        · have b6 : decide ((i : Int) < (sf.length : Int)) = true := by simp; omega
          obtain ⟨b2', off2, e2, z0⟩ := (H2.out.below HP14.out.bel).at i his
          subst e2
          have hsf : sf[i] = own := by rw [HOWN.out, List.getElem?_eq_getElem his]; rfl
          rw [hsf] at z0
          clear hsf
          go_wp2
          go_meet
          exact ⟨rfl, rfl⟩
        · have b6 : decide ((i : Int) < (sf.length : Int)) = false := by simp; omega
          have ho : own = false := by rw [HOWN.out, List.getElem?_eq_none (by omega)]; rfl
          subst ho
          go_wp2
          go_meet
          exact ⟨rfl, rfl⟩
      case rest =>
      obtain ⟨rfl, rfl⟩ := hcut
      clear HOWN
      go_upto_if 137 with fail
      go_cut [16, 26] from 138 to 151 (fun v16 v26 wx => v26 = .bool (unA S2 own x y).1 ∧ v16 = .int .i64 (unA S2 own x y).2 ∧ ∃ Z', PlAt w p q mb (unW S2 own x y) S2 M2 M2 (.slice q14 M2.length c14) Z' wx)
      case first =>
        cases own with
        | true =>
          go_wp2_with fail
          refine (pl_Safely HP14.out HIS.out x y).mono ?_
          rintro e15 w15 ⟨rfl, Z15, hp15, st15⟩
          have HP15 := Lib.hid hp15
          clear hp15 st15
          dsimp only
          go_wp2
          go_meet
          exact ⟨rfl, rfl, _, HP15.out⟩
        | false =>
          go_wp2_with fail
          refine (pl_Unify HP14.out HIS.out x y).mono ?_
          rintro e15 w15 ⟨rfl, Z15, hp15, st15⟩
          have HP15 := Lib.hid hp15
          clear hp15 st15
          dsimp only
          go_wp2
          go_meet
          exact ⟨rfl, rfl, _, HP15.out⟩
      case rest =>
      obtain ⟨rfl, rfl, Z', hp16⟩ := hcut
      have HP16 := Lib.hid hp16
      have HIU := Lib.hid (unW_ext HIS.out own x y).inv
      clear hp16 HP14
      obtain ⟨ok, hok⟩ : ∃ ok, ok = (unA S2 own x y).1 := ⟨_, rfl⟩
      obtain ⟨er, her⟩ : ∃ er, er = (unA S2 own x y).2 := ⟨_, rfl⟩
      have HOK := Lib.hid hok
      have HER := Lib.hid her
      rw [← hok, ← her]
      clear hok her
      go_wp2_with fail
      refine (pl_UnifyR HP16.out HIS.out own x y).mono ?_
      rintro e17 w17 ⟨rfl, Z17, hp17, st17⟩
      rw [← HOK.out, ← HER.out]
      obtain ⟨S3, hS3⟩ : ∃ S3, S3 = unW S2 own x y := ⟨_, rfl⟩
      rw [← hS3] at hp17 HIU
      have HP17 := Lib.hid hp17
      clear hp17 st17 HP16 HOK HER hS3 HIS
      dsimp only
      go_upto_region 26 with fail
      refine wp_region_rest (by kernel_rfl) ?_
      have hdr := HP17.out.below (Below.refl w17.heap.size w17).drew
      have HP := Lib.hid hdr.1
      clear hdr HP17
      generalize w17.drew = W0 at *
      obtain ⟨D, hsto⟩ := HP.out.sto
      obtain ⟨E, href⟩ := HP.out.ref
      obtain ⟨cv', bv', A', hrow⟩ := href
      obtain ⟨q2, c2', e2⟩ := own_form hrow.bonds
      rw [List.length_map] at e2
      subst e2
      obtain ⟨x0, x1, x2⟩ := row3 hrow.row
      have HST := Lib.hid hsto
      have b6 : ((ok != ok) = false) := by simp
      have b7 : ((er != er) = false) := by simp
      clear hsto hrow b2 b3 b4 b5
      refine rest_chainP (SameW W0) 0 18 (.soft 0 (.soft 1 (.soft 2 (.soft 3 (.soft 4 (.soft 5 (.soft 6 (.soft 7 (.soft 8 (.soft 9 (.soft 11 (.soft 12 (.soft 13 (.soft 14 (.soft 15 (.one 10 (.soft 16 (.soft 17 .nil)))))))))))))))))) (.soft _ (.soft _ (.soft _ (.soft _ (.soft _ (.soft _ (.soft _ (.soft _ (.soft _ (.soft _ (.soft _ (.soft _ (.soft _ (.soft _ (.soft _ (.one _ (.soft _ (.soft _ .nil)))))))))))))))))) ⟨rfl, ⟨rfl, ⟨rfl, ⟨rfl, ⟨rfl, ⟨rfl, ⟨rfl, ⟨rfl, ⟨rfl, ⟨rfl, ⟨rfl, ⟨rfl, ⟨rfl, ⟨rfl, ⟨rfl, ⟨rfl, ⟨rfl, ⟨rfl, trivial⟩⟩⟩⟩⟩⟩⟩⟩⟩⟩⟩⟩⟩⟩⟩⟩⟩⟩ (by kernel_rfl) (by kernel_rfl) (by kernel_rfl) (by kernel_rfl) (.inl rfl) (SameW.me W0) ?_
      refine chainP_soft (a1 := ?ma12) (by kernel_rfl) (by kernel_rfl) ?mh12 ?mr12
      case mh12 =>
        intro u hu E hE
        have hu' := hu.eq
        subst hu'
        go_wp2
        rfl
      refine chainP_soft (a1 := ?ma13) (by kernel_rfl) (by kernel_rfl) ?mh13 ?mr13
      case mh13 =>
        intro u hu E hE
        have hu' := hu.eq
        subst hu'
        go_wp2
        rfl
      refine chainP_soft (a1 := ?ma14) (by kernel_rfl) (by kernel_rfl) ?mh14 ?mr14
      case mh14 =>
        intro u hu E hE
        have hu' := hu.eq
        subst hu'
        go_wp2
        rfl
      refine chainP_soft (a1 := ?ma15) (by kernel_rfl) (by kernel_rfl) ?mh15 ?mr15
      case mh15 =>
        intro u hu E hE
        have hu' := hu.eq
        subst hu'
        go_wp2
        rfl
      refine chainP_soft (a1 := ?ma16) (by kernel_rfl) (by kernel_rfl) ?mh16 ?mr16
      case mh16 =>
        intro u hu E hE
        have hu' := hu.eq
        subst hu'
        go_wp2
        rfl
      refine chainP_soft (a1 := ?ma17) (by kernel_rfl) (by kernel_rfl) ?mh17 ?mr17
      case mh17 =>
        intro u hu E hE
        have hu' := hu.eq
        subst hu'
        go_wp2
        rfl
      refine chainP_soft (a1 := ?ma18) (by kernel_rfl) (by kernel_rfl) ?mh18 ?mr18
      case mh18 =>
        intro u hu E hE
        have hu' := hu.eq
        subst hu'
        go_wp2
        rfl
      refine chainP_soft (a1 := ?ma19) (by kernel_rfl) (by kernel_rfl) ?mh19 ?mr19
      case mh19 =>
        intro u hu E hE
        have hu' := hu.eq
        subst hu'
        go_wp2
        rfl
      refine chainP_soft (a1 := ?ma20) (by kernel_rfl) (by kernel_rfl) ?mh20 ?mr20
      case mh20 =>
        intro u hu E hE
        have hu' := hu.eq
        subst hu'
        go_wp2
        rfl
      refine chainP_soft (a1 := ?ma21) (by kernel_rfl) (by kernel_rfl) ?mh21 ?mr21
      case mh21 =>
        intro u hu E hE
        have hu' := hu.eq
        subst hu'
        go_wp2
        rfl
      refine chainP_soft (a1 := ?ma22) (by kernel_rfl) (by kernel_rfl) ?mh22 ?mr22
      case mh22 =>
        intro u hu E hE
        have hu' := hu.eq
        subst hu'
        go_wp2
        rfl
      refine Go.Proofs.Ytoklbeogmcdgaaa.Tms.chainP_nckg _ _ rfl rfl rfl ?_
      simp only [Act.put, List.getElem?_toArray, List.getElem?_cons_succ, List.getElem?_cons_zero, Option.bind_some, List.setIfInBounds_toArray, List.set_cons_succ, List.set_cons_zero, Nat.reduceAdd]
      refine chainP_soft (a1 := ?ma23) (by kernel_rfl) (by kernel_rfl) ?mh23 ?mr23
      case mh23 =>
        intro u hu E hE
        have hu' := hu.eq
        subst hu'
        go_wp2
        rfl
      refine chainP_soft (a1 := ?ma24) (by kernel_rfl) (by kernel_rfl) ?mh24 ?mr24
      case mh24 =>
        intro u hu E hE
        have hu' := hu.eq
        subst hu'
        go_wp2
        rfl
      refine chainP_soft (a1 := ?ma25) (by kernel_rfl) (by kernel_rfl) ?mh25 ?mr25
      case mh25 =>
        intro u hu E hE
        have hu' := hu.eq
        subst hu'
        go_wp2
        rfl
      refine chainP_one ?_
      intro E hE
      go_wp2_with fail
      refine (sto_Mark W0 HST.out).mono ?_
      rintro e6 w6 ⟨rfl, rfl⟩
      go_wp2
      refine ⟨SameW.me _, ?_⟩
      refine chainP_soft (a1 := ?ma26) (by kernel_rfl) (by kernel_rfl) ?mh26 ?mr26
      case mh26 =>
        intro u hu E hE
        have hu' := hu.eq
        subst hu'
        go_wp2
        rfl
      refine chainP_soft (a1 := ?ma27) (by kernel_rfl) (by kernel_rfl) ?mh27 ?mr27
      case mh27 =>
        intro u hu E hE
        have hu' := hu.eq
        subst hu'
        go_wp2
        rfl
      refine chainP_nil (rest_end (by decide) ?_)
      clear x0 x1 x2 HST b6 b7
      have HRL := Lib.hid (show UyRel w p q mb l.length (.int .i64 ((i + 1 : Nat) : Int)) (.slice q14 M2.length c14) W0 from ⟨i + 1, by omega, rfl, S3, M2, Z17, HIU.out, HKS.out, hm2, HP.out⟩)
      clear HP HIU HKS
      go_wp2
      go_roundw
      case measure => simp [intOf]; omega
      case rel => exact HRL.out
    · have b1 : decide ((i : Int) < (l.length : Int)) = false := by simp; omega
      obtain ⟨w7, rfl⟩ : ∃ wo : World, wo = wr := ⟨_, rfl⟩
      obtain ⟨D, hsto⟩ := HP.out.sto
      have HST := Lib.hid hsto
      have hsm := HI.out.small
      have huc : UcRel w p q mb S M (.slice qv M.length cv) Z (.int .i64 ((0 : Nat) : Int)) w7 := ⟨0, by omega, rfl, HP.out⟩
      have HUC := Lib.hid huc
      clear hsto huc hMl hi
      go_wp2_with fail
      refine (sto_Cells w7 HST.out).mono ?_
      rintro e8 w8 ⟨rfl, rfl⟩
      obtain ⟨NN, hNN⟩ : ∃ NN, NN = S.cells.length := ⟨_, rfl⟩
      rw [← hNN] at hsm ⊢
      have HNN := Lib.hid hNN
      clear hNN HST HP
      go_wp2
      go_loopw [181] (fun v181 wr => UcRel w p q mb S M (.slice qv M.length cv) Z v181 wr) (fun v181 _ => NN - (intOf v181).toNat)
      case atStart => exact HUC.out
      case round =>
        clear HUC
        obtain ⟨c, hc, rfl, hP⟩ := hrel
        have HP := Lib.hid hP
        have hc' : c ≤ NN := by rw [HNN.out]; exact hc
        clear hP hc
        by_cases hcl : c < NN
        · have b2 : decide ((c : Int) < (NN : Int)) = true := by simp; omega
          obtain ⟨T, hT⟩ : ∃ T, T = (lookL S c).1 := ⟨_, rfl⟩
          obtain ⟨L, hL⟩ : ∃ L, L = (lookL S c).2 := ⟨_, rfl⟩
          have hla := lookL_args HI.out c
          rw [← hT, ← hL] at hla
          obtain ⟨hTa, hLl⟩ := hla
          obtain ⟨D, hsto⟩ := HP.out.sto
          have hq1 := sto_LookL wr hsto HI.out c
          rw [← hT, ← hL] at hq1
          have HQ1 := Lib.hid hq1
          have HTT := Lib.hid hT
          have HLL := Lib.hid hL
          have HTA := Lib.hid hTa
          clear hT hL hTa hsto hq1
          go_wp2_with fail
          refine HQ1.out.mono ?_
          rintro e9 w9 ⟨v9, rfl, ho9, hb9⟩
          obtain ⟨q9, c9, e9⟩ := ho9.form
          subst e9
          have hba := below_new w9 (.cells #[.int .i64 T.k, .int .i64 T.n, .string T.s, .slice none 0 0] 33 (0, 0))
          have hna := heap_alloc_new w9 (.cells #[.int .i64 T.k, .int .i64 T.n, .string T.s, .slice none 0 0] 33 (0, 0))
          have hP10 := ((HP.out.below hb9).1.below hba).1
          have hs10 : w9.heap.size < (w9.alloc (.cells #[.int .i64 T.k, .int .i64 T.n, .string T.s, .slice none 0 0] 33 (0, 0))).heap.size := by simp
          obtain ⟨E, href⟩ := hP10.ref
          have hq2 := ref_LookL _ href HI.out c
          rw [← HTT.out, ← HLL.out] at hq2
          have HQ2 := Lib.hid hq2
          have HP10 := Lib.hid hP10
          have HN10 := Lib.hid hna
          clear ho9 hb9 hba hna hP10 href hq2 HQ1 HP HTT HLL
          dsimp only
          go_wp2_with fail
          refine HQ2.out.mono ?_
          rintro e11 w11 ⟨v11, rfl, hi11, hb11⟩
          obtain ⟨q11, c11, e11⟩ := hi11.form
          subst e11
          have hba := below_new w11 (.cells #[.int .i64 T.k, .int .i64 T.n, .string T.s, .slice none 0 0] 33 (0, 0))
          have hna := heap_alloc_new w11 (.cells #[.int .i64 T.k, .int .i64 T.n, .string T.s, .slice none 0 0] 33 (0, 0))
          have hz11 := hb11.size
          have hr23 := (hba.block w9.heap.size (by omega)).trans ((hb11.block w9.heap.size hs10).trans HN10.out)
          have HP12 := Lib.hid ((HP10.out.below hb11).1.below hba).1
          obtain ⟨y0, y1, y2, y3⟩ := row4 hr23
          obtain ⟨z0, z1, z2, z3⟩ := row4 hna
          have hts : T.size ≤ 1 := by
            obtain ⟨k', n', s', a'⟩ := T
            have := HTA.out
            simp only [Tm.args] at this
            subst this
            simp [Tm.size, sizeL]
          have hit : IsTm (w11.alloc (.cells #[.int .i64 T.k, .int .i64 T.n, .string T.s, .slice none 0 0] 33 (0, 0))) (fun _ => True) (.agg #[.int .i64 T.k, .int .i64 T.n, .string T.s, .slice none 0 0]) T := ⟨none, 0, by rw [HTA.out]; rfl, by rw [HTA.out]; unfold ArgsFrom; trivial⟩
          have HQ3 := Lib.hid (ref_same 1 T T _ _ _ _ _ hts (by omega) hit hit)
          clear hit hts hi11 hb11 hba hna hr23 hs10 hz11 HQ2 HP10 HN10 HTA
          dsimp only
          go_wp2_with fail
          refine HQ3.out.mono ?_
          rintro e13 w13 ⟨rfl, hb13⟩
          rw [sameT_refl]
          have HNX := Lib.hid (show UcRel w p q mb S M (.slice qv M.length cv) Z (.int .i64 ((c + 1 : Nat) : Int)) w13 from ⟨c + 1, by have := HNN.out; omega, rfl, (HP12.out.below hb13).1⟩)
          have bLL : (((L.length : Int) != (L.length : Int)) = false) := by simp
          clear hb13 HQ3 y0 y1 y2 y3 z0 z1 z2 z3 HP12
          go_wp2
          go_roundw
          case measure => simp [intOf]; omega
          case rel => exact HNX.out
        · have b2 : decide ((c : Int) < (NN : Int)) = false := by simp; omega
          obtain ⟨w9, rfl⟩ : ∃ wo : World, wo = wr := ⟨_, rfl⟩
          obtain ⟨ok, hok⟩ : ∃ ok, ok = (haA S vv at_).1 := ⟨_, rfl⟩
          obtain ⟨er, her⟩ : ∃ er, er = (haA S vv at_).2 := ⟨_, rfl⟩
          have HOK := Lib.hid hok
          have HER := Lib.hid her
          clear hok her
          go_wp2_with fail
          refine (pl_Has HP.out HI.out vv at_).mono ?_
          rintro e10 w10 ⟨rfl, Z10, hp10, st10⟩
          rw [← HOK.out, ← HER.out]
          have HP10 := Lib.hid hp10
          clear hp10 st10 HP
          dsimp only
          go_wp2_with fail
          refine (pl_HasR HP10.out HI.out vv at_).mono ?_
          rintro e11 w11 ⟨rfl, Z11, hp11, st11⟩
          rw [← HOK.out, ← HER.out]
          have HP11 := Lib.hid hp11
          clear hp11 st11 HP10 HOK HER
          dsimp only
          obtain ⟨D, hsto⟩ := HP11.out.sto
          have HST := Lib.hid hsto
          clear hsto
          go_wp2_with fail
          refine (un_Unify_no w11 HST.out HI.out vv (-1) (.inr (by omega))).mono ?_
          rintro e12 w12 ⟨rfl, rfl⟩
          dsimp only
          go_wp2_with fail
          refine (un_Unify_nil w11 0 0).mono ?_
          rintro e12 w12 ⟨rfl, rfl⟩
          have b3 : ((ok == ok) = true) := by simp
          have b4 : ((er == er) = true) := by simp
          dsimp only
          go_wp2
          go_ret
          exact ⟨rfl, HP11.out.bel⟩
end Go.Proofs.Ytoklbeogmcdgaaa.Tms
