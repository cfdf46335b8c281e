
/-
  Layer 20: IndexPicks, walked over the program.
-/
import Derived.Test.YtcmgfelbbmeanaaIxa
import Derived.Test.YtcmgfelbbmeanaaIxt
namespace Go.Proofs.Ytcmgfelbbmeanaa.Tms
open Go Go.RowKit Go.Proofs.Ytcmgfelbbmeanaa.Reg Go.Proofs.Ytcmgfelbbmeanaa.Rws Go.Proofs.Ytcmgfelbbmeanaa.Maps Go.Proofs.Ytcmgfelbbmeanaa.Cod Go.Instr
set_option linter.unusedVariables false
set_option linter.unusedSimpArgs false

def SmURel (Cs : List Cod) (w : World) (vi : Value) (wr : World) : Prop := ∃ i : Nat, i ≤ Cs.length ∧ vi = .int .i64 i ∧ (∀ j (h : j < Cs.length), j < i → Cs[j].l.length ≤ 1000) ∧ Below w.heap.size w wr
theorem pick_lenU {L : List (Option Kx)} {k : Int} {q : Option Kx} : (pickL L k q).length ≤ L.length := by
  unfold pickL
  split
  · exact posF_len _ _ _
  · exact posF_len _ _ _
set_option maxRecDepth 100000 in
set_option maxHeartbeats 4000000 in
theorem law_ipicks (L : List Cod) (k args n : Int) (s : ByteArray) (v1 : Value) (w : World) (h1 : CosSl w v1 L) : Calls Try.prog 3 #[.agg #[v1, .int .i64 k, .int .i64 args, .int .i64 n, .string s]] w (Says true w) := by
  obtain ⟨a1, c1, rfl⟩ : ∃ a c, v1 = .slice a L.length c := let ⟨a, c, e, _⟩ := h1; ⟨a, c, e⟩
  have hb0 : Below w.heap.size w (w.alloc (.cells #[.slice a1 L.length c1, .int .i64 k, .int .i64 args, .int .i64 n, .string s] 24 (0, 0))) := (Below.refl _ _).alloc (Nat.le_refl _) _
  have HR0 := Lib.hid (heap_alloc_new w (.cells #[.slice a1 L.length c1, .int .i64 k, .int .i64 args, .int .i64 n, .string s] 24 (0, 0)))
  have H1 := Lib.hid (h1.below hb0)
  have HB0 := Lib.hid hb0
  clear h1 hb0
  go_enter Try.func3, Try.ntmps3
  go_wp2_with fail
  generalize w.alloc (.cells #[.slice a1 L.length c1, .int .i64 k, .int .i64 args, .int .i64 n, .string s] 24 (0, 0)) = W0 at *
  refine (alive20 _).mono ?_
  rintro e1 w1 ⟨rfl, hb1⟩
  have hd1 := hb1.trans ((Below.refl w1.heap.size w1).drew.mono hb1.size)
  have HR1 := Lib.hid (below_rowS hd1 HR0.out)
  have H2 := Lib.hid (H1.out.below hd1)
  have HB1 := Lib.hid (HB0.out.trans (hd1.mono HB0.out.size))
  clear hb1 hd1 HR0 H1 HB0
  go_upto_region 3 with fail
  refine wp_region_rest (by kernel_rfl) ?_
  generalize w1.drew = W1 at *
  obtain ⟨y0, y1, y2, y3, y4⟩ := row5n HR1.out
  refine rest_chain 0 15 [(false, [0, 1, 2, 3, 4, 5, 6, 7, 8, 9, 10, 11, 12, 13, 14])] [(false, [_, _, _, _, _, _, _, _, _, _, _, _, _, _, _])] rfl (by kernel_rfl) (by kernel_rfl) rfl (by kernel_rfl) (by kernel_rfl) (.inl rfl) ?_
  refine chain_soft ?_
  intro E hE
  go_wp2
  refine chain_nil (rest_end (by decide) ?_)
  clear y0 y1 y2 y3 y4 HR1
  by_cases g1 : 60 < L.length
  · have d1 : decide (60 < (L.length : Int)) = true := by simp; omega
    go_wp2
    go_ret
    exact ⟨rfl, HB1.out⟩
  have d1 : decide (60 < (L.length : Int)) = false := by simp; omega
  have hst : SmURel L W1 (.int .i64 ((0 : Nat) : Int)) W1 := ⟨0, by omega, rfl, fun j _ h => by omega, Below.refl _ _⟩
  have HST := Lib.hid hst
  clear hst
  go_wp2
  go_loopw [29] (fun v29 wr => SmURel L W1 v29 wr) (fun v29 _ => L.length - (intOf v29).toNat)
  case atStart => exact HST.out
  case round =>
    clear HST
    obtain ⟨i, hi, rfl, hq, hbel⟩ := hrel
    have HQ := Lib.hid hq
    have HB := Lib.hid hbel
    clear hq hbel
    by_cases hil : i < L.length
    · have b1 : decide ((i : Int) < (L.length : Int)) = true := by simp; omega
      obtain ⟨a', cap', e, hc1, hc2, hel⟩ := id H2.out
      simp only [Value.slice.injEq, true_and] at e
      obtain ⟨b, off, vs, e1, hbl, hins, x0, x1, x2, x3, x4⟩ := hel i hil
      have e2 := e.1.trans e1
      subst e2
      obtain ⟨C, hC⟩ : ∃ C, C = L[i] := ⟨_, rfl⟩
      rw [← hC] at hins x0 x1 x2 x3
      have hc := fun o => HB.out.cell (p := ⟨b, o, none⟩) hbl
      replace x0 := (hc _).trans x0
      replace x1 := (hc _).trans x1
      replace x2 := (hc _).trans x2
      replace x3 := (hc _).trans x3
      replace x4 := (hc _).trans x4
      obtain ⟨sa, scap, rfl⟩ := hins.form
      have hb5 : Below wr.heap.size wr (wr.alloc (.cells #[.string C.name, .int .i64 C.args, .int .i64 C.slots, .int .i64 C.body, .slice sa C.l.length scap] 28 (0, 0))) := (Below.refl wr.heap.size wr).alloc (Nat.le_refl _) _
      have hr5 := heap_alloc_new wr (.cells #[.string C.name, .int .i64 C.args, .int .i64 C.slots, .int .i64 C.body, .slice sa C.l.length scap] 28 (0, 0))
      have HB5 := Lib.hid (HB.out.trans (hb5.mono HB.out.size))
      have HC := Lib.hid hC
      obtain ⟨y0, y1, y2, y3, y4⟩ := row5n hr5
      clear e e1 hel hins hc hb5 hr5 HB hC hc1 hc2
      by_cases hx : 1000 < C.l.length
      · have b2 : decide (1000 < (C.l.length : Int)) = true := by simp; omega
        clear hx HQ
        go_wp2
        go_ret
        exact ⟨rfl, HB1.out.trans (HB5.out.mono HB1.out.size)⟩
      · have b2 : decide (1000 < (C.l.length : Int)) = false := by simp; omega
        have HRL := Lib.hid (show SmURel L W1 (.int .i64 ((i + 1 : Nat) : Int)) _ from ⟨i + 1, by omega, rfl, fun j g hj => by
          by_cases e : j = i
          · subst e; rw [← HC.out]; omega
          · exact HQ.out j g (by omega), HB5.out⟩)
        clear hx HQ HC
        go_wp2
        go_roundw
        case measure => simp [intOf]; omega
        case rel => exact HRL.out
    · have b1 : decide ((i : Int) < (L.length : Int)) = false := by simp; omega
      have hall : ∀ c ∈ L, c.l.length ≤ 1000000 := fun c hc => by
        obtain ⟨j, hj, rfl⟩ := List.mem_iff_getElem.1 hc
        have := HQ.out j hj (by omega)
        omega
      have HA := Lib.hid hall
      have hba : Below wr.heap.size wr (wr.alloc (.cells #[.int .i64 k, .int .i64 n, .string s, .slice none 0 0] 31 (0, 0))) := (Below.refl _ _).alloc (Nat.le_refl _) _
      have HR := Lib.hid (heap_alloc_new wr (.cells #[.int .i64 k, .int .i64 n, .string s, .slice none 0 0] 31 (0, 0)))
      have hbz := HB.out.trans (hba.mono HB.out.size)
      have HL := Lib.hid (H2.out.below hbz)
      have HBZ := Lib.hid (HB1.out.trans (hbz.mono HB1.out.size))
      clear hall HQ hba hbz HB HB1 H2
      go_wp2_with fail
      generalize wr.alloc (.cells #[.int .i64 k, .int .i64 n, .string s, .slice none 0 0] 31 (0, 0)) = W2 at *
      refine (go_codes L _ _ HL.out HA.out (by omega)).mono ?_
      rintro e13 w13 ⟨v13, rfl, hc13, hb13⟩
      have HR13 := Lib.hid (below_rowS hb13 HR.out)
      have HC13 := Lib.hid hc13
      have HL13 := Lib.hid (HL.out.below hb13)
      have HB13 := Lib.hid (HBZ.out.trans (hb13.mono HBZ.out.size))
      clear hc13 hb13 HR HL HBZ
      go_wp2_with fail
      refine (go_New L _ _ HC13.out HA.out (by omega)).mono ?_
      rintro e14 w14 ⟨rfl, MA, RA, hix, hb14⟩
      have hd14 := hb14.trans ((Below.refl w14.heap.size w14).drew.mono hb14.size)
      have HX := Lib.hid (hix.below (Below.refl w14.heap.size w14).drew)
      have HR14 := Lib.hid (below_rowS hd14 HR13.out)
      have HL14 := Lib.hid (HL13.out.below hd14)
      have HB14 := Lib.hid (HB13.out.trans (hd14.mono HB13.out.size))
      clear hix hb14 hd14 HR13 HB13 HC13 HL13
      go_upto_region 14 with fail
      refine wp_region_rest (by kernel_rfl) ?_
      generalize w14.drew = W3 at *
      obtain ⟨y0, y1, y2, y3⟩ := row4 HR14.out
      obtain ⟨PW, hPW⟩ : ∃ PW, PW = pickL (L.map codeK) k (termK k n s args) := ⟨_, rfl⟩
      obtain ⟨PV, hPV⟩ : ∃ PV, PV = pickL (L.map codeK) 1 (termK 1 0 ⟨#[]⟩ 0) := ⟨_, rfl⟩
      obtain ⟨kn, hkn⟩ : ∃ kn, kn = (keysO (L.map codeK)).length := ⟨_, rfl⟩
      have hl1 : PW.length ≤ 60 := by rw [hPW]; have := pick_lenU (L := L.map codeK) (k := k) (q := termK k n s args); rw [List.length_map] at this; omega
      have hl2 : PV.length ≤ 60 := by rw [hPV]; have := pick_lenU (L := L.map codeK) (k := 1) (q := termK 1 0 ⟨#[]⟩ 0); rw [List.length_map] at this; omega
      have HPW := Lib.hid hPW
      have HPV := Lib.hid hPV
      have HKN := Lib.hid hkn
      clear hPW hPV hkn
      refine rest_chain 0 26 [(false, [0, 1, 2, 4, 5, 6]), (true, [3]), (true, [7]), (true, [8]), (false, [9, 10, 12]), (true, [11]), (true, [13]), (false, [14, 15, 16, 17, 18, 20, 21]), (true, [19]), (true, [22]), (true, [23]), (false, [24, 25])] [(false, [_, _, _, _, _, _]), (true, [_]), (true, [_]), (true, [_]), (false, [_, _, _]), (true, [_]), (true, [_]), (false, [_, _, _, _, _, _, _]), (true, [_]), (true, [_]), (true, [_]), (false, [_, _])] rfl (by kernel_rfl) (by kernel_rfl) rfl (by kernel_rfl) (by kernel_rfl) (.inl rfl) ?_
      refine chain_soft ?_
      intro E hE
      go_wp2
      clear y0 y1 y2 y3 HR14
      refine chain_one ?_
      intro E hE
      go_wp2_with (refine (go_Pick (by rw [List.length_map]; exact HX.out) (by rw [List.length_map]; omega) k n s none 0 0 args).mono ?_; rintro e1 u1 ⟨v1, rfl, ho1, hb1⟩; have HO1 := Lib.hid ho1; have HB21 := Lib.hid hb1; clear ho1 hb1)
      refine ⟨HB21.out, ?_⟩
      rw [← HPW.out] at HO1
      have HX_1 := Lib.hid (HX.out.below HB21.out)
      have HL_1 := Lib.hid (HL14.out.below HB21.out)
      have HB_1 := Lib.hid (HB14.out.trans (HB21.out.mono HB14.out.size))
      clear HX HL14 HB14 HB21
      have hi1 := own_intsJ HO1.out
      obtain ⟨q1, d1', e1⟩ := own_formX HO1.out
      subst e1
      refine chain_one ?_
      intro E hE
      go_wp2_with (refine (ref_Pick20 L _ k n s none 0 0 args _ HL_1.out HA.out (by omega)).mono ?_; rintro e2 u2 ⟨v2, rfl, ho2, hb2⟩; have HO2 := Lib.hid ho2; have HB22 := Lib.hid hb2; clear ho2 hb2)
      refine ⟨HB22.out, ?_⟩
      rw [← HPW.out] at HO2
      have HX_2 := Lib.hid (HX_1.out.below HB22.out)
      have HL_2 := Lib.hid (HL_1.out.below HB22.out)
      have HB_2 := Lib.hid (HB_1.out.trans (HB22.out.mono HB_1.out.size))
      have HI1 := Lib.hid (hi1.below HB22.out)
      have hi2 := own_intsJ HO2.out
      have HI2 := Lib.hid hi2
      obtain ⟨q2, d2', e2⟩ := own_formX HO2.out
      subst e2
      clear hi1 hi2 HO1 HO2 HX_1 HL_1 HB_1 HB22
      refine chain_one ?_
      intro E hE
      go_wp2_with (refine (go_ints PW PW _ _ _ _ _ HI1.out HI2.out (by omega) (by omega)).mono ?_; rintro e3 u3 ⟨rfl, hb3⟩; have HB23 := Lib.hid hb3; clear hb3)
      refine ⟨HB23.out, ?_⟩
      try rw [show decide (PW = PW) = true from decide_eq_true rfl]
      have HX_3 := Lib.hid (HX_2.out.below HB23.out)
      have HL_3 := Lib.hid (HL_2.out.below HB23.out)
      have HB_3 := Lib.hid (HB_2.out.trans (HB23.out.mono HB_2.out.size))
      clear HX_2 HL_2 HB_2 HB23 HI1 HI2
      refine chain_soft ?_
      intro E hE
      go_wp2
      refine chain_one ?_
      intro E hE
      go_wp2_with (refine (go_Keys HX_3.out).mono ?_; rintro e4 u4 ⟨rfl, rfl⟩)
      refine ⟨Below.refl _ _, ?_⟩
      try rw [← HKN.out]
      refine chain_one ?_
      intro E hE
      go_wp2_with (refine (ref_Keys20 L _ _ HL_3.out HA.out (by omega)).mono ?_; rintro e5 u5 ⟨rfl, hb5⟩; have HB25 := Lib.hid hb5; clear hb5)
      refine ⟨HB25.out, ?_⟩
      try rw [← HKN.out]
      have HX_5 := Lib.hid (HX_3.out.below HB25.out)
      have HL_5 := Lib.hid (HL_3.out.below HB25.out)
      have HB_5 := Lib.hid (HB_3.out.trans (HB25.out.mono HB_3.out.size))
      clear HX_3 HL_3 HB_3 HB25
      refine chain_soft ?_
      intro E hE
      go_wp2
      refine chain_one ?_
      intro E hE
      go_wp2_with (refine (go_Pick (by rw [List.length_map]; exact HX_5.out) (by rw [List.length_map]; omega) 1 0 ⟨#[]⟩ none 0 0 0).mono ?_; rintro e6 u6 ⟨v6, rfl, ho6, hb6⟩; have HO6 := Lib.hid ho6; have HB26 := Lib.hid hb6; clear ho6 hb6)
      refine ⟨HB26.out, ?_⟩
      rw [← HPV.out] at HO6
      have HX_6 := Lib.hid (HX_5.out.below HB26.out)
      have HL_6 := Lib.hid (HL_5.out.below HB26.out)
      have HB_6 := Lib.hid (HB_5.out.trans (HB26.out.mono HB_5.out.size))
      clear HX_5 HL_5 HB_5 HB26
      have hi6 := own_intsJ HO6.out
      obtain ⟨q6, d6', e6⟩ := own_formX HO6.out
      subst e6
      refine chain_one ?_
      intro E hE
      go_wp2_with (refine (ref_Pick20 L _ 1 0 ⟨#[]⟩ none 0 0 0 _ HL_6.out HA.out (by omega)).mono ?_; rintro e7 u7 ⟨v7, rfl, ho7, hb7⟩; have HO7 := Lib.hid ho7; have HB27 := Lib.hid hb7; clear ho7 hb7)
      refine ⟨HB27.out, ?_⟩
      rw [← HPV.out] at HO7
      have HX_7 := Lib.hid (HX_6.out.below HB27.out)
      have HL_7 := Lib.hid (HL_6.out.below HB27.out)
      have HB_7 := Lib.hid (HB_6.out.trans (HB27.out.mono HB_6.out.size))
      have HI6 := Lib.hid (hi6.below HB27.out)
      have hi7 := own_intsJ HO7.out
      have HI7 := Lib.hid hi7
      obtain ⟨q7, d7', e7⟩ := own_formX HO7.out
      subst e7
      clear hi6 hi7 HO6 HO7 HX_6 HL_6 HB_6 HB27
      refine chain_one ?_
      intro E hE
      go_wp2_with (refine (go_ints PV PV _ _ _ _ _ HI6.out HI7.out (by omega) (by omega)).mono ?_; rintro e8 u8 ⟨rfl, hb8⟩; have HB28 := Lib.hid hb8; clear hb8)
      refine ⟨HB28.out, ?_⟩
      try rw [show decide (PV = PV) = true from decide_eq_true rfl]
      have HX_8 := Lib.hid (HX_7.out.below HB28.out)
      have HL_8 := Lib.hid (HL_7.out.below HB28.out)
      have HB_8 := Lib.hid (HB_7.out.trans (HB28.out.mono HB_7.out.size))
      clear HX_7 HL_7 HB_7 HB28 HI6 HI7
      refine chain_soft ?_
      intro E hE
      go_wp2
      refine chain_nil (rest_end (by decide) ?_)
      go_wp2
      go_ret
      exact ⟨rfl, HB_8.out⟩
end Go.Proofs.Ytcmgfelbbmeanaa.Tms
