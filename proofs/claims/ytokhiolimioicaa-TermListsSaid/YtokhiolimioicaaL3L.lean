
/-
  TermLists, walked over the program.
-/
import Derived.Test.YtokhiolimioicaaItm
import Derived.Test.YtokhiolimioicaaRall
import Derived.Test.YtokhiolimioicaaOrd
namespace Go.Proofs.Ytokhiolimioicaa.Tms
open Go Go.RowKit Go.Proofs.Ytokhiolimioicaa.Reg Go.Proofs.Ytokhiolimioicaa.Rws
set_option linter.unusedVariables false

theorem IsSl.take {w : World} {P : Nat → Prop} {a : Option Addr} {n c c' : Nat} {l m : List Tm} (h : IsSl w P (.slice a n c) (l ++ m)) : IsSl w P (.slice a l.length c') l := by
  refine IsSl.mk' fun i hi => ?_
  obtain ⟨b, off, e, hp, ht⟩ := h.at i (by simp; omega)
  rw [List.getElem_append_left hi] at ht
  exact ⟨b, off, e, hp, ht⟩
theorem IsSl.drop {w : World} {P : Nat → Prop} {b o : Nat} {n c c' : Nat} {l m : List Tm} (h : IsSl w P (.slice (some ⟨b, o, none⟩) n c) (l ++ m)) : IsSl w P (.slice (some ⟨b, o + l.length * 4, none⟩) m.length c') m := by
  refine IsSl.mk' fun i hi => ?_
  obtain ⟨b', off, e, hp, ht⟩ := h.at (l.length + i) (by simp; omega)
  simp only [Option.some.injEq, Addr.mk.injEq, and_true] at e
  obtain ⟨rfl, rfl⟩ := e
  rw [List.getElem_append_right (by omega)] at ht
  simp only [Nat.add_sub_cancel_left] at ht
  rw [Nat.add_mul, ← Nat.add_assoc] at ht
  exact ⟨b, _, rfl, hp, ht⟩

/-- a slice of slices of parts -/
def PsSl (w : World) (v : Value) (LL : List (List Pt)) : Prop :=
  ∃ a cap, v = .slice a LL.length cap ∧ LL.length ≤ cap ∧ cap ≤ maxLen ∧ ∀ j (h : j < LL.length), ∃ b off u, a = some ⟨b, off, none⟩ ∧ b < w.heap.size ∧ w.cell? ⟨b, off + j, none⟩ = some u ∧ PtSl w u LL[j]

def LtRel (w : World) (LL : List (List Pt)) (vo vi : Value) (wr : World) : Prop :=
  ∃ k : Nat, k ≤ LL.length ∧ vi = .int .i64 (k : Int) ∧ OwnSl wr w.heap.size (fun b => w.heap.size ≤ b) vo ((LL.take k).map goodT) ∧ Below w.heap.size w wr ∧ sizeL ((LL.take k).map goodT) ≤ 500 * k
theorem sameL_refl' : ∀ l : List Tm, sameL l l = true
  | [] => by simp [sameL]
  | t :: l => by simp [sameL, sameL_refl' l, (cmpT_same t t).1 (cmpT_refl t)]

set_option maxRecDepth 100000 in
set_option maxHeartbeats 4000000 in
theorem law_lists (LL : List (List Pt)) (M : List Pt) (v1 v2 : Value) (w : World) (h1 : PsSl w v1 LL) (h2 : PtSl w v2 M) : Calls Try.prog 10 #[v1, v2] w (Says true w) := by
  obtain ⟨a1, c1, rfl, hc1, hm1, hat⟩ := h1
  obtain ⟨a2, c2, rfl, hc2, hm2⟩ := h2.form
  have H2 := Lib.hid h2
  have HAT := Lib.hid hat
  clear h2 hat
  by_cases g1 : 30 < LL.length
  · have d1 : decide (30 < (LL.length : Int)) = true := by simp; omega
    go_enter Try.func10, Try.ntmps10
    go_wp2_with (go_at_call 14; refine (l3_alive _).mono ?_; rintro e1 w1 ⟨rfl, hb1⟩; have HB := Lib.hid hb1; clear hb1)
    go_ret
    exact ⟨rfl, HB.out⟩
  have d1 : decide (30 < (LL.length : Int)) = false := by simp; omega
  by_cases g2 : 60 < M.length
  · have d2 : decide (60 < (M.length : Int)) = true := by simp; omega
    go_enter Try.func10, Try.ntmps10
    go_wp2_with (first
      | (go_at_call 14; refine (l3_alive _).mono ?_; rintro e1 w1 ⟨rfl, hb1⟩; have HB := Lib.hid hb1; clear hb1)
      | (go_at_call 15; refine (ref_great M _ _ (H2.out.below HB.out)).mono ?_; rintro e2 w2 ⟨rfl, rfl⟩))
    go_ret
    exact ⟨rfl, HB.out⟩
  have d2 : decide (60 < (M.length : Int)) = false := by simp; omega
  go_enter Try.func10, Try.ntmps10
  go_wp2_with (first
    | (go_at_call 14; refine (l3_alive _).mono ?_; rintro e1 w1 ⟨rfl, hb1⟩; have HB := Lib.hid hb1; clear hb1)
    | (go_at_call 15; refine (ref_great M _ _ (H2.out.below HB.out)).mono ?_; rintro e2 w2 ⟨rfl, rfl⟩))
  have hst : LtRel w LL (.slice none 0 0) (.int .i64 ((0 : Nat) : Int)) w1 := ⟨0, by omega, rfl, OwnSl.nil _ _ _, HB.out, by simp [sizeL]⟩
  have HST := Lib.hid hst
  clear hst
  go_loopw [5, 25] (fun vo vi wr => LtRel w LL vo vi wr) (fun _ vi _ => LL.length - (intOf vi).toNat)
  case atStart => exact HST.out
  case round =>
    obtain ⟨k, hk, rfl, hown, hbl, hsz⟩ := hrel
    have hform := hown.form
    rw [List.length_map, List.length_take, Nat.min_eq_left hk] at hform
    obtain ⟨av, cv, rfl⟩ := hform
    have HOWN := Lib.hid hown
    have HBL := Lib.hid hbl
    have HSZ := Lib.hid hsz
    clear HST hown hbl hsz
    by_cases hkl : k < LL.length
    · obtain ⟨b, off, u, ea, hlt, hcell, hpt⟩ := HAT.out k hkl
      obtain ⟨pa, pc, rfl, hp1, hp2⟩ := hpt.form
      have x0 := (HBL.out.cell (p := ⟨b, off + k, none⟩) hlt).trans hcell
      have HPT := Lib.hid (hpt.below HBL.out)
      have hin : (k : Int) < (LL.length : Int) := by omega
      have hin0 : (0 : Int) ≤ (k : Int) := by omega
      have htk : (LL.take (k + 1)).map goodT = (LL.take k).map goodT ++ [goodT LL[k]] := by rw [List.take_succ_eq_append_getElem hkl, List.map_append]; rfl
      have HTK := Lib.hid htk
      subst ea
      clear hpt hcell htk
      by_cases g3 : 60 < LL[k].length
      · have d3 : decide (60 < (LL[k].length : Int)) = true := by simp; omega
        generalize LL[k] = N at *
        go_wp2_with (go_at_call 15; refine (ref_great N _ _ HPT.out).mono ?_; rintro e2 w2 ⟨rfl, rfl⟩)
        go_ret
        exact ⟨rfl, HBL.out⟩
      have d3 : decide (60 < (LL[k].length : Int)) = false := by simp; omega
      generalize LL[k] = N at *
      have zN := goodT_size N
      have hlm : ((LL.take k).map goodT).length = k := by simp; omega
      have HLM := Lib.hid hlm
      have HSB := Lib.hid HBL.out.size
      clear hlm
      go_wp2_with (first
        | (go_at_call 15; refine (ref_great N _ _ HPT.out).mono ?_; rintro e2 w2 ⟨rfl, rfl⟩)
        | (go_at_call 23
           refine (ref_good N _ _ (by omega) HPT.out).mono ?_
           rintro e2 w2 ⟨v2, rfl, hi2, hb2⟩
           obtain ⟨a4, c4, rfl⟩ := hi2.form
           have OWN2 := Lib.hid (HOWN.out.below hb2)
           have hit := hi2.imp (P' := fun b => w.heap.size ≤ b ∧ Value.ownBlock (.slice av k cv) ≠ some b) (fun b h => h.elim (fun h => h.elim) fun h => ⟨Nat.le_trans HSB.out h, fun e => by have := (HOWN.out.low b e).2; omega⟩) fun _ _ _ => rfl
           have HIX := Lib.hid hit
           have HB2 := Lib.hid hb2
           have hs2 : w.heap.size ≤ w2.heap.size := Nat.le_trans HSB.out hb2.size
           clear hi2 hb2 hit x0)
        | (with_reducible show wpList _ _ _ (⟨some 35, _, _, _, _, _⟩ :: _) _ _; refine wpList_push_term rfl (.tmp 31) (.tmp 34) rfl w.heap.size _ _ _ _ _ _ _ _ _ rfl OWN2.out rfl rfl HIX.out (by rw [HLM.out]; omega) hs2 ?_
           intro v3 w3 hown hb3 _ _
           rw [← HTK.out] at hown
           have OWN3 := Lib.hid hown
           have HB3 := Lib.hid (HBL.out.trans ((HB2.out.mono HSB.out).trans hb3))
           clear hown hb3))
      go_roundw
      case rel => exact ⟨k + 1, by omega, by go_num, OWN3.out, HB3.out, by rw [HTK.out, sizeL_app]; have := HSZ.out; simp only [sizeL]; omega⟩
      case measure => simp [intOf]; omega
    · obtain rfl : k = LL.length := by omega
      have ho := HOWN.out
      have hz := HSZ.out
      rw [List.take_length] at ho hz
      obtain ⟨O, hO⟩ : ∃ O, O = LL.map goodT := ⟨_, rfl⟩
      rw [← hO] at ho hz
      have hOl : O.length = LL.length := by rw [hO]; simp
      have HO := Lib.hid ho.reads
      have zM := goodT_size M
      have hE : (goodT M).size ≤ 1000 := by omega
      have hS : sizeL O + (goodT M).size ≤ 1000000 := by omega
      have HOL := Lib.hid hOl
      clear hO ho hz HOWN HSZ hOl zM
      go_wp2_with fail
      refine (ref_good M _ _ (by omega) (H2.out.below HBL.out)).mono ?_
      rintro e2 w2 ⟨v2, rfl, hi2, hb2⟩
      obtain ⟨a3, c3, rfl⟩ := hi2.form
      have HE := Lib.hid hi2.any
      have HB2 := Lib.hid (HBL.out.trans (hb2.mono HBL.out.size))
      have HO2 := Lib.hid (HO.out.below hb2)
      clear hi2 hb2 HO HBL
      generalize goodT M = E at *
      obtain ⟨A, hA⟩ : ∃ A, A = (itemsT E).1 := ⟨_, rfl⟩
      obtain ⟨R, hR⟩ : ∃ R, R = (itemsT E).2 := ⟨_, rfl⟩
      obtain ⟨T, hT⟩ : ∃ T, T = listT O E := ⟨_, rfl⟩
      have hTT := list_items E O
      rw [← hT, ← hA, ← hR] at hTT
      have hTs : T.size ≤ 2000000 := by have := listT_size E O; rw [hT, this]; have := HOL.out; omega
      have hIs := items_size E
      rw [← hA, ← hR] at hIs
      have hAs : A.length ≤ 1000000 := by have := len_le A; omega
      have hcE : ∀ W V P, IsTm W P V E → Calls Try.prog 35 #[V] W fun e w' => ∃ v1 v2 a1 c1, e = .returned (.tuple #[v1, v2]) ∧ v1 = .slice a1 A.length c1 ∧ A.length ≤ c1 ∧ c1 ≤ maxLen ∧ ((a1 = none ∧ c1 = 0) ∨ ∃ g, a1 = some ⟨g, 0, none⟩) ∧ IsSl w' AnyB v1 A ∧ IsTm w' AnyB v2 R ∧ Below W.heap.size W w' := fun W V P h => by
        rw [hA, hR]
        exact tm_items E V P W (by omega) h
      have hcT : ∀ W V P, IsTm W P V T → Calls Try.prog 35 #[V] W fun e w' => ∃ v1 v2 a1 c1, e = .returned (.tuple #[v1, v2]) ∧ v1 = .slice a1 (LL.length + A.length) c1 ∧ LL.length + A.length ≤ c1 ∧ c1 ≤ maxLen ∧ ((a1 = none ∧ c1 = 0) ∨ ∃ g, a1 = some ⟨g, 0, none⟩) ∧ IsSl w' AnyB v1 (O ++ A) ∧ IsTm w' AnyB v2 R ∧ Below W.heap.size W w' := fun W V P h => by
        have hh := tm_items T V P W (by omega) h
        rw [hTT] at hh
        rw [List.length_append, HOL.out] at hh
        exact hh
      have HCE := Lib.hid hcE
      have HCT := Lib.hid hcT
      have HT := Lib.hid hT
      clear hA hR hT hTT hcE hcT
      go_wp2_with fail
      have ha3 : Below w2.heap.size w2 (w2.alloc (.cells #[.int .i64 E.k, .int .i64 E.n, .string E.s, .slice a3 E.args.length c3] 27 (0, 0))) := (Below.refl _ _).alloc (Nat.le_refl _) _
      have hr3 := heap_alloc_new w2 (.cells #[.int .i64 E.k, .int .i64 E.n, .string E.s, .slice a3 E.args.length c3] 27 (0, 0))
      have hz3 : w2.heap.size < (w2.alloc (.cells #[.int .i64 E.k, .int .i64 E.n, .string E.s, .slice a3 E.args.length c3] 27 (0, 0))).heap.size := by simp
      generalize w2.alloc (.cells #[.int .i64 E.k, .int .i64 E.n, .string E.s, .slice a3 E.args.length c3] 27 (0, 0)) = W1 at *
      refine (tm_list O E _ _ _ _ _ (by omega) (HO2.out.below ha3) (HE.out.below ha3)).mono ?_
      rintro e3 w3 ⟨v3, rfl, hi3, hb3⟩
      rw [← HT.out] at hi3
      obtain ⟨a4, c4, rfl⟩ := hi3.form
      have hx := ha3.trans (hb3.mono (Nat.le_of_lt hz3))
      have HE3 := Lib.hid (HE.out.below hx)
      have HO3 := Lib.hid (HO2.out.below hx)
      have HB3 := Lib.hid (HB2.out.trans (hx.mono HB2.out.size))
      have HR3 := Lib.hid ((hb3.block _ hz3).trans hr3)
      have hs3 : w2.heap.size < w3.heap.size := by have := hb3.size; omega
      have HT3 := Lib.hid hi3
      clear ha3 hr3 hz3 hi3 hb3 hx HE HO2 HB2 HT
      go_wp2_with fail
      have ha4 : Below w3.heap.size w3 (w3.alloc (.cells #[.int .i64 T.k, .int .i64 T.n, .string T.s, .slice a4 T.args.length c4] 27 (0, 0))) := (Below.refl _ _).alloc (Nat.le_refl _) _
      have hz4 : w3.heap.size < (w3.alloc (.cells #[.int .i64 T.k, .int .i64 T.n, .string T.s, .slice a4 T.args.length c4] 27 (0, 0))).heap.size := by simp
      generalize w3.alloc (.cells #[.int .i64 T.k, .int .i64 T.n, .string T.s, .slice a4 T.args.length c4] 27 (0, 0)) = W2 at *
      refine (HCT.out _ _ _ (HT3.out.below ha4)).mono ?_
      rintro e4 w4 ⟨v4, r4, ai, ci, rfl, rfl, hci, hcm, hcn, hi4, ht4, hb4⟩
      obtain ⟨a5, c5, rfl⟩ := ht4.form
      have hx := ha4.trans (hb4.mono (Nat.le_of_lt hz4))
      have HE4 := Lib.hid (HE3.out.below hx)
      have HO4 := Lib.hid (HO3.out.below hx)
      have HB4 := Lib.hid (HB3.out.trans (hx.mono HB3.out.size))
      have HR4 := Lib.hid ((hx.block _ hs3).trans HR3.out)
      have hs4 : w2.heap.size < w4.heap.size := by have := hb4.size; omega
      have HI4 := Lib.hid hi4
      have HS4 := Lib.hid ht4
      have HCI : Hid (LL.length + A.length ≤ ci ∧ ci ≤ maxLen ∧ ((ai = none ∧ ci = 0) ∨ ∃ g, ai = some ⟨g, 0, none⟩)) := Lib.hid ⟨hci, hcm, hcn⟩
      clear ha4 hz4 hi4 ht4 hb4 hx hci hcm hcn HE3 HO3 HB3 HR3 HT3
      have ha5 : Below w4.heap.size w4 (w4.alloc (.cells #[.int .i64 R.k, .int .i64 R.n, .string R.s, .slice a5 R.args.length c5] 27 (0, 0))) := (Below.refl _ _).alloc (Nat.le_refl _) _
      obtain ⟨x0, x1, x2, x3⟩ := row4 ((ha5.block _ hs4).trans HR4.out)
      go_wp2_with fail
      obtain ⟨q4, q5⟩ : (w4.alloc (.cells #[.int .i64 R.k, .int .i64 R.n, .string R.s, .slice a5 R.args.length c5] 27 (0, 0))).heap[w4.heap.size]? = _ ∧ w4.heap.size < (w4.alloc (.cells #[.int .i64 R.k, .int .i64 R.n, .string R.s, .slice a5 R.args.length c5] 27 (0, 0))).heap.size := ⟨heap_alloc_new w4 _, by simp⟩
      generalize w4.alloc (.cells #[.int .i64 R.k, .int .i64 R.n, .string R.s, .slice a5 R.args.length c5] 27 (0, 0)) = W3 at *
      refine (HCE.out _ _ _ (HE4.out.below ha5)).mono ?_
      rintro e5 w5 ⟨v5, r5, am, cm, rfl, rfl, hcm1, hcm2, hcm3, hi5, ht5, hb5⟩
      obtain ⟨a6, c6, rfl⟩ := ht5.form
      have hx := ha5.trans (hb5.mono (Nat.le_of_lt q5))
      have HO5 := Lib.hid (HO4.out.below hx)
      have HI5 := Lib.hid (HI4.out.below hx)
      have HS5 := Lib.hid (HS4.out.below hx)
      have HB5 := Lib.hid (HB4.out.trans (hx.mono HB4.out.size))
      have HR5 := Lib.hid ((hb5.block _ q5).trans q4)
      have hs5 : w4.heap.size < w5.heap.size := by have := hb5.size; omega
      have HM5 := Lib.hid hi5
      have HL5 := Lib.hid ht5
      clear x0 x1 x2 x3 ha5 q4 q5 hi5 ht5 hb5 hx HE4 HO4 HI4 HS4 HB4 HR4 hcm1 hcm2 hcm3 HCE HCT
      have ha6 : Below w5.heap.size w5 (w5.alloc (.cells #[.int .i64 R.k, .int .i64 R.n, .string R.s, .slice a6 R.args.length c6] 27 (0, 0))) := (Below.refl _ _).alloc (Nat.le_refl _) _
      have HR6 := Lib.hid ((ha6.block _ hs5).trans HR5.out)
      have HQ6 := Lib.hid (heap_alloc_new w5 (.cells #[.int .i64 R.k, .int .i64 R.n, .string R.s, .slice a6 R.args.length c6] 27 (0, 0)))
      have HO6 := Lib.hid (HO5.out.below ha6)
      have HI6 := Lib.hid (HI5.out.below ha6)
      have HS6 := Lib.hid (HS5.out.below ha6)
      have HM6 := Lib.hid (HM5.out.below ha6)
      have HL6 := Lib.hid (HL5.out.below ha6)
      have HB6 := Lib.hid (HB5.out.trans (ha6.mono HB5.out.size))
      have hs6 : w4.heap.size < (w5.alloc (.cells #[.int .i64 R.k, .int .i64 R.n, .string R.s, .slice a6 R.args.length c6] 27 (0, 0))).heap.size := by simp; omega
      have hs7 : w5.heap.size < (w5.alloc (.cells #[.int .i64 R.k, .int .i64 R.n, .string R.s, .slice a6 R.args.length c6] 27 (0, 0))).heap.size := by simp
      clear ha6 HO5 HI5 HS5 HM5 HL5 HB5 HR5
      have hn0 : (0 : Int) ≤ (LL.length : Int) := by omega
      have ee : (((LL.length + A.length : Nat) : Int) == (LL.length : Int) + (A.length : Int)) = true := by rw [beq_iff_eq]; omega
      obtain ⟨hci, hcm, hcn⟩ := HCI.out
      have hci2 : LL.length ≤ ci := by omega
      have hci3 : LL.length ≤ LL.length + A.length := by omega
      have hRR : sameT R R = true := (cmpT_same R R).1 (cmpT_refl R)
      obtain ⟨W4, hW4⟩ : ∃ W4, W4 = w5.alloc (.cells #[.int .i64 R.k, .int .i64 R.n, .string R.s, .slice a6 R.args.length c6] 27 (0, 0)) := ⟨_, rfl⟩
      rw [← hW4] at HR6 HQ6 HO6 HI6 HS6 HM6 HL6 HB6 hs6 hs7
      have HW4 := Lib.hid hW4
      clear hW4
      rcases hcn with ⟨rfl, rfl⟩ | ⟨g, rfl⟩
      · have hO0 : O = [] := List.eq_nil_of_length_eq_zero (by have := HOL.out; omega)
        have hA0 : A = [] := List.eq_nil_of_length_eq_zero (by omega)
        have j1 : IsSl W4 AnyB (.slice none 0 0) O := by rw [hO0]; exact IsSl.nil _ _ _ _
        have j2 : IsSl W4 AnyB (.slice none A.length 0) A := by rw [hA0]; exact IsSl.nil _ _ _ _
        have J1 := Lib.hid j1
        have J2 := Lib.hid j2
        clear hO0 hA0 j1 j2
        go_wp2_with fail
        rw [← HW4.out]
        refine (ref_all O O _ _ _ _ _ (by omega) (J1.out) HO6.out).mono ?_
        rintro e6 w6 ⟨rfl, hb6⟩
        rw [sameL_refl']
        have HC6 := Lib.hid hb6
        clear hb6
        go_wp2_with fail
        refine (ref_all A A _ _ _ _ _ (by omega) (J2.out.below HC6.out) (HM6.out.below HC6.out)).mono ?_
        rintro e7 w7 ⟨rfl, hb7⟩
        rw [sameL_refl']
        have HC7 := Lib.hid (HC6.out.trans (hb7.mono HC6.out.size))
        clear hb7
        obtain ⟨x0, x1, x2, x3⟩ := row4 ((HC7.out.block _ hs6).trans HR6.out)
        obtain ⟨y0, y1, y2, y3⟩ := row4 ((HC7.out.block _ hs7).trans HQ6.out)
        go_wp2_with fail
        refine (ref_same _ R R _ _ _ _ _ (Nat.le_refl _) (by omega) (HS6.out.below HC7.out) (HL6.out.below HC7.out)).mono ?_
        rintro e8 w8 ⟨rfl, hb8⟩
        rw [hRR]
        have HF := Lib.hid (HB6.out.trans ((HC7.out.trans (hb8.mono HC7.out.size)).mono HB6.out.size))
        clear hb8 x0 x1 x2 x3 y0 y1 y2 y3
        go_wp2
        go_ret
        exact ⟨rfl, HF.out⟩
      have j1 : IsSl W4 AnyB (.slice (some ⟨g, 0, none⟩) LL.length ci) O := by
        have := HI6.out.take (c' := ci)
        rwa [HOL.out] at this
      have J1 := Lib.hid j1
      clear j1
      rcases Nat.lt_or_ge LL.length ci with hc | hc
      · have j2 : IsSl W4 AnyB (.slice (some ⟨g, LL.length * 4, none⟩) A.length (ci - LL.length)) A := by
          have := HI6.out.drop (c' := ci - LL.length)
          rwa [HOL.out, Nat.zero_add] at this
        have J2 := Lib.hid j2
        clear j2
        have es : LL.length + A.length - LL.length = A.length := by omega
        go_wp2_with fail
        rw [← HW4.out]
        refine (ref_all O O _ _ _ _ _ (by omega) (J1.out) HO6.out).mono ?_
        rintro e6 w6 ⟨rfl, hb6⟩
        rw [sameL_refl']
        have HC6 := Lib.hid hb6
        clear hb6
        go_wp2_with fail
        refine (ref_all A A _ _ _ _ _ (by omega) (J2.out.below HC6.out) (HM6.out.below HC6.out)).mono ?_
        rintro e7 w7 ⟨rfl, hb7⟩
        rw [sameL_refl']
        have HC7 := Lib.hid (HC6.out.trans (hb7.mono HC6.out.size))
        clear hb7
        obtain ⟨x0, x1, x2, x3⟩ := row4 ((HC7.out.block _ hs6).trans HR6.out)
        obtain ⟨y0, y1, y2, y3⟩ := row4 ((HC7.out.block _ hs7).trans HQ6.out)
        go_wp2_with fail
        refine (ref_same _ R R _ _ _ _ _ (Nat.le_refl _) (by omega) (HS6.out.below HC7.out) (HL6.out.below HC7.out)).mono ?_
        rintro e8 w8 ⟨rfl, hb8⟩
        rw [hRR]
        have HF := Lib.hid (HB6.out.trans ((HC7.out.trans (hb8.mono HC7.out.size)).mono HB6.out.size))
        clear hb8 x0 x1 x2 x3 y0 y1 y2 y3
        go_wp2
        go_ret
        exact ⟨rfl, HF.out⟩
      · have hA0 : A = [] := List.eq_nil_of_length_eq_zero (by omega)
        have j2 : IsSl W4 AnyB (.slice (some ⟨g, 0, none⟩) A.length 0) A := by rw [hA0]; exact IsSl.nil _ _ _ _
        have J2 := Lib.hid j2
        clear j2 hA0
        have es : LL.length + A.length - LL.length = A.length := by omega
        obtain rfl : ci = LL.length := by omega
        go_wp2_with fail
        rw [← HW4.out]
        refine (ref_all O O _ _ _ _ _ (by omega) (J1.out) HO6.out).mono ?_
        rintro e6 w6 ⟨rfl, hb6⟩
        rw [sameL_refl']
        have HC6 := Lib.hid hb6
        clear hb6
        go_wp2_with fail
        refine (ref_all A A _ _ _ _ _ (by omega) (J2.out.below HC6.out) (HM6.out.below HC6.out)).mono ?_
        rintro e7 w7 ⟨rfl, hb7⟩
        rw [sameL_refl']
        have HC7 := Lib.hid (HC6.out.trans (hb7.mono HC6.out.size))
        clear hb7
        obtain ⟨x0, x1, x2, x3⟩ := row4 ((HC7.out.block _ hs6).trans HR6.out)
        obtain ⟨y0, y1, y2, y3⟩ := row4 ((HC7.out.block _ hs7).trans HQ6.out)
        go_wp2_with fail
        refine (ref_same _ R R _ _ _ _ _ (Nat.le_refl _) (by omega) (HS6.out.below HC7.out) (HL6.out.below HC7.out)).mono ?_
        rintro e8 w8 ⟨rfl, hb8⟩
        rw [hRR]
        have HF := Lib.hid (HB6.out.trans ((HC7.out.trans (hb8.mono HC7.out.size)).mono HB6.out.size))
        clear hb8 x0 x1 x2 x3 y0 y1 y2 y3
        go_wp2
        go_ret
        exact ⟨rfl, HF.out⟩
end Go.Proofs.Ytokhiolimioicaa.Tms
