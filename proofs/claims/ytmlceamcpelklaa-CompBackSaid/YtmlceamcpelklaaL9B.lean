
/-
  CompBack, walked over the program (its last region's ways are printed by gen_l9b.py).
-/
import Derived.Test.YtmlceamcpelklaaL9N
import Derived.Test.YtmlceamcpelklaaPlc9
namespace Go.Proofs.Ytmlceamcpelklaa.Tms
open Go Go.RowKit Go.Proofs.Ytmlceamcpelklaa.Reg Go.Proofs.Ytmlceamcpelklaa.Rws Go.Proofs.Ytmlceamcpelklaa.Cod
set_option linter.unusedVariables false
set_option linter.unusedSimpArgs false

theorem compE_good {h b : Tm} (m1 : mayT h = true) (m2 : mayT b = true) (s1 : h.size ≤ 1000) (s2 : b.size ≤ 1000) : ((h.k = 3 ∨ h.k = 4) ∧ compE h b = (compC h b, 0)) ∨ ((h.k = 1 ∨ h.k = 2) ∧ compE h b = (zeroCod, 2)) := by
  have c1 := check_zero m1 (by omega)
  have c2 := check_zero m2 (by omega)
  have hk := may_kind m1
  unfold compE
  rw [if_neg (by rw [c1]; simp), if_neg (by rw [c2]; simp)]
  by_cases k : h.k = 3 ∨ h.k = 4
  · left
    exact ⟨k, by rw [if_neg (by omega), if_neg (by omega)]⟩
  · right
    exact ⟨by omega, by rw [if_pos (by omega)]⟩
def BkTo (H B : Tm) (x : Int) (w : World) (e : Ending) (w' : World) : Prop :=
  ∃ a1 c1 a2 c2, e = .returned (.tuple #[aggT H a1 c1, aggT B a2 c2, .int .i64 x]) ∧ IsTm w' (fun b => w.heap.size ≤ b) (aggT H a1 c1) H ∧ IsTm w' (fun b => w.heap.size ≤ b) (aggT B a2 c2) B ∧ Below w.heap.size w w'
theorem go_Back_to {c : Cod} {H B : Tm} {x : Int} (hc : backE c = (H, B, x)) (v : Value) (w : World) (hv : InsSl w v c.l) : Calls Try.prog 38 #[codVal c v] w (BkTo H B x w) := by
  refine (go_Back c v w hv).mono ?_
  rintro e w' ⟨a1, c1, a2, c2, rfl, h1, h2, h3⟩
  rw [hc] at h1 h2 ⊢
  exact ⟨a1, c1, a2, c2, rfl, h1, h2, h3⟩

set_option maxRecDepth 100000 in
set_option maxHeartbeats 8000000 in
theorem law_back (L M : List Pt) (v1 v2 : Value) (w : World) (h1 : PtSl w v1 L) (h2 : PtSl w v2 M) : Calls Try.prog 10 #[v1, v2] w (Says true w) := by
  obtain ⟨a1, c1, rfl, -, -⟩ := h1.form
  obtain ⟨a2, c2, rfl, -, -⟩ := h2.form
  have H1 := Lib.hid h1
  have H2 := Lib.hid h2
  clear h1 h2
  by_cases g1 : 60 < L.length
  · have d1 : decide (60 < (L.length : Int)) = true := by simp; omega
    go_enter Try.func10, Try.ntmps10
    go_wp2_with (first
      | (go_at_call 29; refine (l9_alive _).mono ?_; rintro e1 w1 ⟨rfl, hb1⟩; have HB := Lib.hid hb1; clear hb1)
      | (go_at_call 15; refine (ref_great L _ _ (H1.out.below HB.out)).mono ?_; rintro e2 w2 ⟨rfl, rfl⟩))
    go_ret
    exact ⟨rfl, HB.out⟩
  have d1 : decide (60 < (L.length : Int)) = false := by simp; omega
  by_cases g2 : 60 < M.length
  · have d2 : decide (60 < (M.length : Int)) = true := by simp; omega
    go_enter Try.func10, Try.ntmps10
    go_wp2_with (first
      | (go_at_call 29; refine (l9_alive _).mono ?_; rintro e1 w1 ⟨rfl, hb1⟩; have HB := Lib.hid hb1; clear hb1)
      | (go_at_call 15; refine (ref_great L _ _ (H1.out.below HB.out)).mono ?_; rintro e2 w2 ⟨rfl, rfl⟩)
      | (go_at_call 15; refine (ref_great M _ _ (H2.out.below HB.out)).mono ?_; rintro e2 w2 ⟨rfl, rfl⟩))
    go_ret
    exact ⟨rfl, HB.out⟩
  have d2 : decide (60 < (M.length : Int)) = false := by simp; omega
  have z1 := goodT_size L
  have z2 := goodT_size M
  have hcg := compE_good (good_may (L := L)) (good_may (L := M)) (by omega) (by omega)
  have HM1 := Lib.hid (good_may (L := L))
  have HM2 := Lib.hid (good_may (L := M))
  have HCG := Lib.hid hcg
  clear hcg
  go_enter Try.func10, Try.ntmps10
  go_wp2_with fail
  refine (l9_alive _).mono ?_
  rintro e1 w1 ⟨rfl, hb1⟩
  have HB := Lib.hid hb1
  clear hb1
  go_wp2_with fail
  refine (ref_great L _ _ (H1.out.below HB.out)).mono ?_; rintro e2 w2 ⟨rfl, rfl⟩
  go_wp2_with fail
  refine (ref_great M _ _ (H2.out.below HB.out)).mono ?_; rintro e2 w2 ⟨rfl, rfl⟩
  go_wp2_with fail
  refine (ref_good L _ _ (by omega) (H1.out.below HB.out)).mono ?_
  rintro e4 w4 ⟨v4, rfl, hi4, hb4⟩
  obtain ⟨b1, k1, rfl⟩ := hi4.form
  have HX4 := Lib.hid hi4.any
  have HB4 := Lib.hid (HB.out.trans (hb4.mono HB.out.size))
  clear hi4 hb4 HB
  go_wp2_with fail
  refine (ref_good M _ _ (by omega) (H2.out.below HB4.out)).mono ?_
  rintro e5 w5 ⟨v5, rfl, hi5, hb5⟩
  obtain ⟨b2, k2, rfl⟩ := hi5.form
  have HX := Lib.hid (HX4.out.below hb5)
  have HY := Lib.hid hi5.any
  have HB5 := Lib.hid (HB4.out.trans (hb5.mono HB4.out.size))
  clear hi5 hb5 HX4 HB4 H1 H2
  generalize goodT L = X at *
  generalize goodT M = Y at *
  obtain ⟨t0, t1, tsz, tbl⟩ := two w5 (rowT X b1 k1) (rowT Y b2 k2)
  have hz7 : w5.heap.size + 2 ≤ ((w5.alloc (rowT X b1 k1)).alloc (rowT Y b2 k2)).heap.size := by omega
  obtain ⟨x0, x1, x2, x3⟩ := row4 t0
  obtain ⟨y0, y1, y2, y3⟩ := row4 t1
  have HX7 := Lib.hid (HX.out.below tbl)
  have HY7 := Lib.hid (HY.out.below tbl)
  have HB7 := Lib.hid (HB5.out.trans (tbl.mono HB5.out.size))
  have HRX7 := Lib.hid t0
  have HRY7 := Lib.hid t1
  have HZ7 := Lib.hid hz7
  clear t0 t1 tsz tbl hz7 HX HY HB5
  simp only [rowT] at x0 x1 x2 x3 y0 y1 y2 y3 HX7 HY7 HB7 HRX7 HRY7 HZ7
  rcases HCG.out with ⟨kx, hce⟩ | ⟨kx, hce⟩
  case inr =>
    obtain ⟨C, HCE⟩ : ∃ C, Hid (compE X Y = (C, 2)) := ⟨_, Lib.hid hce⟩
    rcases kx with kx | kx
    all_goals
      first
        | have bk : (X.k == 1) = true := by simp [kx]
        | (have bk : (X.k == 1) = false := by simp [kx]
           have bk2 : (X.k == 2) = true := by simp [kx])
      clear hce kx
      go_wp2_with fail
      generalize (w5.alloc (.cells #[.int .i64 X.k, .int .i64 X.n, .string X.s, .slice b1 X.args.length k1] 27 (0, 0))).alloc (.cells #[.int .i64 Y.k, .int .i64 Y.n, .string Y.s, .slice b2 Y.args.length k2] 27 (0, 0)) = w7 at *
      clear x0 x1 x2 x3 y0 y1 y2 y3
      refine (go_Compile_to HCE.out _ _ _ _ _ (by omega) (by omega) HX7.out HY7.out).mono ?_
      rintro e8 w8 ⟨ca, ck, rfl, hi8, hb8⟩
      have hb9 := below_new w8 (codO C ca ck)
      obtain ⟨x0, x1, x2, x3⟩ := row4 ((hb9.block w5.heap.size (by have := HZ7.out; have := hb8.size; omega)).trans ((hb8.block w5.heap.size (by have := HZ7.out; omega)).trans HRX7.out))
      have HB9 := Lib.hid (HB7.out.trans ((hb8.trans (hb9.mono hb8.size)).mono HB7.out.size))
      clear hb9 hi8 hb8
      simp only [codO] at x0 x1 x2 x3 HB9
      go_wp2
      go_ret
      exact says (by simp) HB9.out
  -- REST
  have hbk := back_comp HM1.out HM2.out kx (by omega)
  have hinj : ∀ m n, m ∈ occT X ++ occT Y → n ∈ occT X ++ occT Y → psi (occT X ++ occT Y) m = psi (occT X ++ occT Y) n → m = n := fun m n hm hn e => psi_inj hm hn e
  have hc2 := (compE_ren2 (φ := psi (occT X ++ occT Y)) (fun n _ => psi_ge _ n) HM1.out HM2.out hinj).trans hce
  have hnum : numT (compT (⟨#[58, 45]⟩ : ByteArray) [renT (psi (occT X ++ occT Y)) X, renT (psi (occT X ++ occT Y)) Y]) = numT (compT (⟨#[58, 45]⟩ : ByteArray) [X, Y]) := by
    have e1 : compT (⟨#[58, 45]⟩ : ByteArray) [renT (psi (occT X ++ occT Y)) X, renT (psi (occT X ++ occT Y)) Y] = renT (psi (occT X ++ occT Y)) (compT (⟨#[58, 45]⟩ : ByteArray) [X, Y]) := by simp [compT, renT, renL]
    have e2 : occT (compT (⟨#[58, 45]⟩ : ByteArray) [X, Y]) = occT X ++ occT Y := by simp [compT, occT, occL]
    rw [e1]
    exact numT_ren _ (by rw [e2]; exact hinj)
  have hck := compC_ok HM1.out HM2.out kx (by omega)
  have hlc := compE_len X Y
  rw [hce] at hlc
  have zx := renT_size (psi (occT X ++ occT Y)) X
  have zy := renT_size (psi (occT X ++ occT Y)) Y
  generalize renT (psi (occT X ++ occT Y)) X = X' at *
  generalize renT (psi (occT X ++ occT Y)) Y = Y' at *
  generalize compC X Y = C at *
  have HCE := Lib.hid hce
  have HBK := Lib.hid hbk
  have HC2 := Lib.hid hc2
  have HNUM := Lib.hid hnum
  have HCK := Lib.hid hck
  have HLC : Hid (C.l.length ≤ 1000000) := Lib.hid (by have : C.l.length ≤ 20000 := hlc; omega)
  have zx' : X'.size ≤ 1000 := by omega
  have zy' : Y'.size ≤ 1000 := by omega
  have zx0 : X.size ≤ 1000 := by omega
  have zy0 : Y.size ≤ 1000 := by omega
  clear hce hbk hc2 hnum hck hlc zx zy hinj kx z1 z2 HCG
  go_wp2_with fail
  generalize (w5.alloc (.cells #[.int .i64 X.k, .int .i64 X.n, .string X.s, .slice b1 X.args.length k1] 27 (0, 0))).alloc (.cells #[.int .i64 Y.k, .int .i64 Y.n, .string Y.s, .slice b2 Y.args.length k2] 27 (0, 0)) = w7 at *
  clear x0 x1 x2 x3 y0 y1 y2 y3
  refine (go_Compile_to HCE.out _ _ _ _ _ (by omega) (by omega) HX7.out HY7.out).mono ?_
  rintro e8 w8 ⟨ca, ck, rfl, hi8, hb8⟩
  have hb9 := below_new w8 (codO C ca ck)
  have hr9 := heap_alloc_new w8 (codO C ca ck)
  have hz9 : w8.heap.size < (w8.alloc (codO C ca ck)).heap.size := by simp
  obtain ⟨x0, x1, x2, x3, x4⟩ := row5 hr9
  have HB79 := Lib.hid (hb8.trans (hb9.mono hb8.size))
  have HI9 := Lib.hid (hi8.below hb9)
  have HR9 := Lib.hid hr9
  have HZ9 := Lib.hid hz9
  clear hb9 hi8 hb8 hr9 hz9
  simp only [codO] at x0 x1 x2 x3 x4 HB79 HI9 HR9 HZ9
  go_wp2_with fail
  generalize (w8.alloc (.cells #[.string C.name, .int .i64 C.args, .int .i64 C.slots, .int .i64 C.body, .slice ca C.l.length ck] 51 (0, 0))) = w9 at *
  clear x0 x1 x2 x3 x4
  refine (go_Back_to HBK.out _ _ HI9.out).mono ?_
  rintro e10 w10 ⟨p1, q1, p2, q2, rfl, hx10, hy10, hb10⟩
  obtain ⟨t0, t1, tsz, tbl⟩ := two w10 (rowT X' p1 q1) (rowT Y' p2 q2)
  obtain ⟨x0, x1, x2, x3⟩ := row4 t0
  obtain ⟨y0, y1, y2, y3⟩ := row4 t1
  have hz12 : w10.heap.size + 2 ≤ ((w10.alloc (rowT X' p1 q1)).alloc (rowT Y' p2 q2)).heap.size := by omega
  have HB912 := Lib.hid (hb10.trans (tbl.mono hb10.size))
  have HX12 := Lib.hid (hx10.any.below tbl)
  have HY12 := Lib.hid (hy10.any.below tbl)
  have HRX12 := Lib.hid t0
  have HRY12 := Lib.hid t1
  have HZ12 := Lib.hid hz12
  have HZ10 := Lib.hid hb10.size
  clear t0 t1 tsz tbl hz12 hx10 hy10 hb10
  simp only [rowT] at x0 x1 x2 x3 y0 y1 y2 y3 HB912 HX12 HY12 HRX12 HRY12 HZ12
  go_wp2_with fail
  generalize (w10.alloc (.cells #[.int .i64 X'.k, .int .i64 X'.n, .string X'.s, .slice p1 X'.args.length q1] 27 (0, 0))).alloc (.cells #[.int .i64 Y'.k, .int .i64 Y'.n, .string Y'.s, .slice p2 Y'.args.length q2] 27 (0, 0)) = w12 at *
  clear x0 x1 x2 x3 y0 y1 y2 y3
  refine (go_Compile_to HC2.out _ _ _ _ _ (by omega) (by omega) HX12.out HY12.out).mono ?_
  rintro e13 w13 ⟨ca2, ck2, rfl, hi13, hb13⟩
  have hb14 := below_new w13 (codO C ca2 ck2)
  have hr14 := heap_alloc_new w13 (codO C ca2 ck2)
  have hz14 : w13.heap.size < (w13.alloc (codO C ca2 ck2)).heap.size := by simp
  have HB1214 := Lib.hid (hb13.trans (hb14.mono hb13.size))
  have HI14 := Lib.hid (hi13.below hb14)
  have HR14 := Lib.hid hr14
  have HZ14 := Lib.hid hz14
  clear hb14 hi13 hb13 hr14 hz14
  simp only [codO] at HB1214 HI14 HR14 HZ14
  go_wp2
  refine wp_region_rest (by kernel_rfl) ?_
  generalize (w13.alloc (.cells #[.string C.name, .int .i64 C.args, .int .i64 C.slots, .int .i64 C.body, .slice ca2 C.l.length ck2] 51 (0, 0))) = w14 at *
  have hdr : Below w14.heap.size w14 w14.drew := (Below.refl _ _).drew
  have b12 := HB1214.out.trans (hdr.mono HB1214.out.size)
  have b9 := HB912.out.trans (b12.mono HB912.out.size)
  have b7 := HB79.out.trans (b9.mono HB79.out.size)
  have HX := Lib.hid (HX7.out.below b7)
  have HY := Lib.hid (HY7.out.below b7)
  have HX' := Lib.hid (HX12.out.below b12)
  have HY' := Lib.hid (HY12.out.below b12)
  have HI := Lib.hid (HI9.out.below b9)
  have HJ := Lib.hid (HI14.out.below hdr)
  have HRX := Lib.hid ((b7.block w5.heap.size (by have := HZ7.out; omega)).trans HRX7.out)
  have HRY := Lib.hid ((b7.block (w5.heap.size + 1) (by have := HZ7.out; omega)).trans HRY7.out)
  have HRC := Lib.hid ((b9.block w8.heap.size HZ9.out).trans HR9.out)
  have HRX' := Lib.hid ((b12.block w10.heap.size (by have := HZ12.out; omega)).trans HRX12.out)
  have HRY' := Lib.hid ((b12.block (w10.heap.size + 1) (by have := HZ12.out; omega)).trans HRY12.out)
  have HRA := Lib.hid ((hdr.block w13.heap.size HZ14.out).trans HR14.out)
  have HBF := Lib.hid (HB7.out.trans (b7.mono HB7.out.size))
  clear b12 b9 b7 hdr HX7 HY7 HX12 HY12 HI9 HI14 HRX7 HRY7 HR9 HRX12 HRY12 HR14 HB7 HB79 HB912 HB1214 HZ7 HZ9 HZ10 HZ12 HZ14 HCE HBK HC2
  generalize w14.drew = W0 at *
  obtain ⟨x0, x1, x2, x3, x4⟩ := row5 HRC.out
  refine rest_chain 0 19 [(false, [0]), (true, [1]), (false, [2, 3, 4, 5, 6, 7, 8, 9, 10, 11, 12, 14]), (true, [13]), (true, [15]), (true, [16]), (false, [17, 18])] [(false, [_]), (true, [_]), (false, [_, _, _, _, _, _, _, _, _, _, _, _]), (true, [_]), (true, [_]), (true, [_]), (false, [_, _])] rfl (by kernel_rfl) (by kernel_rfl) rfl (by kernel_rfl) (by kernel_rfl) (.inl rfl) ?_
  refine chain_soft ?_
  intro E hE
  go_wp2
  clear x0 x1 x2 x3 x4
  refine chain_one ?_
  intro E hE
  go_wp2_with (go_at_call 41
               refine (go_check C _ _ HI.out).mono ?_
               rintro e15 w15 ⟨rfl, hb15⟩
               rw [HCK.out]
               have HB15 := Lib.hid hb15
               clear hb15)
  refine ⟨HB15.out, ?_⟩
  obtain ⟨x0, x1, x2, x3, x4⟩ := row5 ((HB15.out.block w8.heap.size (Array.getElem?_eq_some_iff.1 HRC.out).1).trans HRC.out)
  obtain ⟨y0, y1, y2, y3, y4⟩ := row5 ((HB15.out.block w13.heap.size (Array.getElem?_eq_some_iff.1 HRA.out).1).trans HRA.out)
  refine chain_soft ?_
  intro E hE
  go_wp2
  clear x0 x1 x2 x3 x4 y0 y1 y2 y3 y4
  refine chain_one ?_
  intro E hE
  go_wp2_with (go_at_call 35
               refine (from_any C _ _ (HJ.out.below HB15.out) HLC.out).mono ?_
               rintro e16 w16 ⟨vf, rfl, hif, hbf⟩
               obtain ⟨af, kf, rfl⟩ := hif.form
               have HIF := Lib.hid hif
               have HB16 := Lib.hid hbf
               clear hif hbf
               simp only [codVal])
  refine ⟨HB16.out, ?_⟩
  refine chain_one ?_
  intro E hE
  go_wp2_with (go_at_call 35
               refine (from_any C _ _ ((HI.out.below HB15.out).below HB16.out) HLC.out).mono ?_
               rintro e17 w17 ⟨vh, rfl, hih, hbh⟩
               obtain ⟨ah, kh, rfl⟩ := hih.form
               have HIH := Lib.hid hih
               have HB17 := Lib.hid hbh
               clear hih hbh
               simp only [codVal])
  refine ⟨HB17.out, ?_⟩
  refine chain_one ?_
  intro E hE
  go_wp2_with (go_at_call 34
               refine (Cod.ref_same C _ _ _ (HIF.out.below HB17.out) HIH.out HLC.out).mono ?_
               rintro e18 w18 ⟨rfl, hbk⟩
               have HB18 := Lib.hid hbk
               clear hbk)
  refine ⟨HB18.out, ?_⟩
  refine chain_soft ?_
  intro E hE
  go_wp2
  refine chain_nil (rest_end (by decide) ?_)
  go_wp2
  refine wp_region_rest (by kernel_rfl) ?_
  have b18 := HB15.out.trans ((HB16.out.trans ((HB17.out.trans (HB18.out.mono HB17.out.size)).mono HB16.out.size)).mono HB15.out.size)
  have b0 := b18.trans ((Below.refl w18.heap.size w18).drew.mono b18.size)
  replace HX := Lib.hid (HX.out.below b0)
  replace HY := Lib.hid (HY.out.below b0)
  replace HX' := Lib.hid (HX'.out.below b0)
  replace HY' := Lib.hid (HY'.out.below b0)
  replace HRX := Lib.hid ((b0.block _ (Array.getElem?_eq_some_iff.1 HRX.out).1).trans HRX.out)
  replace HRY := Lib.hid ((b0.block _ (Array.getElem?_eq_some_iff.1 HRY.out).1).trans HRY.out)
  replace HRX' := Lib.hid ((b0.block _ (Array.getElem?_eq_some_iff.1 HRX'.out).1).trans HRX'.out)
  replace HRY' := Lib.hid ((b0.block _ (Array.getElem?_eq_some_iff.1 HRY'.out).1).trans HRY'.out)
  have HBE := Lib.hid (HBF.out.trans (b0.mono HBF.out.size))
  clear b18 b0 HI HJ HRC HRA HBF HIF HIH HB15 HB16 HB17 HB18
  generalize w18.drew = V0 at *
  have l1 := (Array.getElem?_eq_some_iff.1 HRX.out).1
  have l2 := (Array.getElem?_eq_some_iff.1 HRY.out).1
  have l3 := (Array.getElem?_eq_some_iff.1 HRX'.out).1
  have l4 := (Array.getElem?_eq_some_iff.1 HRY'.out).1
  have HU0 : Hid (Below V0.heap.size V0 V0) := Lib.hid (Below.refl _ _)
  refine rest_chainP (fun u => Below V0.heap.size V0 u) 0 8 (.soft 0 (.soft 1 (.soft 5 (.soft 6 (.two 2 7 (.two 3 7 (.two 4 7 (.one 7 .nil) (.one 4 .nil)) (.one 3 (.one 4 .nil))) (.one 2 (.one 3 (.one 4 .nil)))))))) (.soft _ (.soft _ (.soft _ (.soft _ (.two _ _ (.two _ _ (.two _ _ (.one _ .nil) (.one _ .nil)) (.one _ (.one _ .nil))) (.one _ (.one _ (.one _ .nil)))))))) ⟨rfl, ⟨rfl, ⟨rfl, ⟨rfl, ⟨rfl, rfl, ⟨rfl, rfl, ⟨rfl, rfl, ⟨rfl, trivial⟩, ⟨rfl, trivial⟩⟩, ⟨rfl, ⟨rfl, trivial⟩⟩⟩, ⟨rfl, ⟨rfl, ⟨rfl, trivial⟩⟩⟩⟩⟩⟩⟩⟩ (by kernel_rfl) (by kernel_rfl) (by kernel_rfl) (by kernel_rfl) (.inr (by kernel_rfl)) (Below.refl _ _) ?_
  refine chainP_soft (a1 := ?ma1) (by kernel_rfl) (by kernel_rfl) ?mh1 ?mr1
  case mh1 =>
    intro u hu E hE
    obtain ⟨x0, x1, x2, x3⟩ := row4 ((hu.block _ l1).trans HRX.out)
    go_wp2
    rfl
  refine chainP_soft (a1 := ?ma2) (by kernel_rfl) (by kernel_rfl) ?mh2 ?mr2
  case mh2 =>
    intro u hu E hE
    obtain ⟨x0, x1, x2, x3⟩ := row4 ((hu.block _ l2).trans HRY.out)
    go_wp2
    rfl
  refine chainP_soft (a1 := ?ma3) (by kernel_rfl) (by kernel_rfl) ?mh3 ?mr3
  case mh3 =>
    intro u hu E hE
    obtain ⟨x0, x1, x2, x3⟩ := row4 ((hu.block _ l3).trans HRX'.out)
    go_wp2
    rfl
  refine chainP_soft (a1 := ?ma4) (by kernel_rfl) (by kernel_rfl) ?mh4 ?mr4
  case mh4 =>
    intro u hu E hE
    obtain ⟨x0, x1, x2, x3⟩ := row4 ((hu.block _ l4).trans HRY'.out)
    go_wp2
    rfl
  refine chainP_two ?_ ?_
  · intro E hE
    go_wp2
    have hb1 := below_new V0 (.cells #[.int .i64 X.k, .int .i64 X.n, .string X.s, .slice b1 X.args.length k1, .int .i64 Y.k, .int .i64 Y.n, .string Y.s, .slice b2 Y.args.length k2] 27 (0, 0))
    have hs1 := row2 (HX.out.below HU0.out) (HY.out.below HU0.out)
    generalize V0.alloc (.cells #[.int .i64 X.k, .int .i64 X.n, .string X.s, .slice b1 X.args.length k1, .int .i64 Y.k, .int .i64 Y.n, .string Y.s, .slice b2 Y.args.length k2] 27 (0, 0)) = u1_ at *
    have HU2 := Lib.hid (HU0.out.trans (hb1.mono HU0.out.size))
    have HS2 := Lib.hid hs1
    clear hb1 hs1
    refine ⟨HU2.out, ?_⟩
    refine chainP_two ?_ ?_
    · intro E hE
      go_wp2_with (go_at_call 32
                   refine (l9_f _ _ _ _ _).mono ?_
                   rintro e u3_ ⟨rfl, hb3⟩
                   have ht3 := comp_is (s := (⟨#[58, 45]⟩ : ByteArray)) (l := [X, Y]) (HS2.out.below hb3)
                   have HT3_ := Lib.hid ht3
                   have HB3_ := Lib.hid hb3
                   clear hb3 ht3)
      have HU4 := Lib.hid (HU2.out.trans (HB3_.out.mono HU2.out.size))
      have HS4 := Lib.hid (HS2.out.below HB3_.out)
      have HT4 := HT3_
      refine ⟨HU4.out, ?_⟩
      refine chainP_two ?_ ?_
      · intro E hE
        go_wp2_with (go_at_call 42
                     refine (tm_Number (compT (⟨#[58, 45]⟩ : ByteArray) [X, Y]) _ _ _ (by simp only [compT, Tm.size, sizeL]; omega) HT4.out).mono ?_
                     rintro e u5_ ⟨vn, rfl, hi5, hb5⟩
                     obtain ⟨an, cn, rfl⟩ := hi5.form
                     have HF5_ := Lib.hid hi5.any
                     have HB5_ := Lib.hid hb5
                     clear hi5 hb5)
        have HU6 := Lib.hid (HU4.out.trans (HB5_.out.mono HU4.out.size))
        have HS6 := Lib.hid (HS4.out.below HB5_.out)
        have HT6 := Lib.hid (HT4.out.below HB5_.out)
        have HF6 := HF5_
        refine ⟨HU6.out, ?_⟩
        refine chainP_one ?_
        intro E hE
        go_wp2
        have hb7 := below_new u5_ (.cells #[.int .i64 X'.k, .int .i64 X'.n, .string X'.s, .slice p1 X'.args.length q1, .int .i64 Y'.k, .int .i64 Y'.n, .string Y'.s, .slice p2 Y'.args.length q2] 27 (0, 0))
        have hs7 := row2 (HX'.out.below HU6.out) (HY'.out.below HU6.out)
        generalize u5_.alloc (.cells #[.int .i64 X'.k, .int .i64 X'.n, .string X'.s, .slice p1 X'.args.length q1, .int .i64 Y'.k, .int .i64 Y'.n, .string Y'.s, .slice p2 Y'.args.length q2] 27 (0, 0)) = u7_ at *
        have HU8 := Lib.hid (HU6.out.trans (hb7.mono HU6.out.size))
        have HS8 := Lib.hid (HS6.out.below hb7)
        have HT8 := Lib.hid (HT6.out.below hb7)
        have HF8 := Lib.hid (HF6.out.below hb7)
        have HG8 := Lib.hid hs7
        clear hb7 hs7
        refine ⟨HU8.out, ?_⟩
        refine chainP_nil ?_
        have hbd : (compT (⟨#[58, 45]⟩ : ByteArray) [X', Y']).size ≤ 1000000 := by simp only [compT, Tm.size, sizeL]; omega
        refine rest_lineL 8 12 [_, _, _, _] rfl (by kernel_rfl) (by decide) (by decide) (by kernel_rfl) ?_
        go_wp2_with (first
          | (go_at_call 32
             refine (l9_f _ _ _ _ _).mono ?_
             rintro e wa ⟨rfl, hba⟩
             have hta := comp_is (s := (⟨#[58, 45]⟩ : ByteArray)) (l := [X', Y']) (HG8.out.below hba)
             have HTA := Lib.hid hta
             have HBA := Lib.hid hba
             have HFA := Lib.hid (HF8.out.below hba)
             clear hba hta)
          | (go_at_call 42
             refine (tm_Number (compT (⟨#[58, 45]⟩ : ByteArray) [X', Y']) _ _ _ (by omega) HTA.out).mono ?_
             rintro e wb ⟨vn2, rfl, hib, hbb⟩
             rw [HNUM.out] at hib
             obtain ⟨an2, cn2, rfl⟩ := hib.form
             have HIB := Lib.hid hib
             have HBB := Lib.hid hbb
             have HFB := Lib.hid (HFA.out.below hbb)
             clear hib hbb)
          | (go_at_call 19
             refine (Tms.ref_same _ (numT (compT (⟨#[58, 45]⟩ : ByteArray) [X, Y])) (numT (compT (⟨#[58, 45]⟩ : ByteArray) [X, Y])) _ _ _ _ _ (Nat.le_refl _) (by rw [numT_size]; simp only [compT, Tm.size, sizeL]; omega) HFB.out HIB.out).mono ?_
             rintro e wc ⟨rfl, hbc⟩
             rw [sameT_self]
             have HBC := Lib.hid hbc
             clear hbc))
        refine then_rest (rest_end (by decide) ?_)
        go_wp2
        go_ret
        exact says rfl (HBE.out.trans ((HU8.out.trans ((HBA.out.trans ((HBB.out.trans (HBC.out.mono HBB.out.size)).mono HBA.out.size)).mono HU8.out.size)).mono HBE.out.size))
      · intro E hE
        go_wp2
        have hb9 := below_new u3_ (.cells #[.int .i64 X'.k, .int .i64 X'.n, .string X'.s, .slice p1 X'.args.length q1, .int .i64 Y'.k, .int .i64 Y'.n, .string Y'.s, .slice p2 Y'.args.length q2] 27 (0, 0))
        have hs9 := row2 (HX'.out.below HU4.out) (HY'.out.below HU4.out)
        generalize u3_.alloc (.cells #[.int .i64 X'.k, .int .i64 X'.n, .string X'.s, .slice p1 X'.args.length q1, .int .i64 Y'.k, .int .i64 Y'.n, .string Y'.s, .slice p2 Y'.args.length q2] 27 (0, 0)) = u9_ at *
        have HU10 := Lib.hid (HU4.out.trans (hb9.mono HU4.out.size))
        have HS10 := Lib.hid (HS4.out.below hb9)
        have HT10 := Lib.hid (HT4.out.below hb9)
        have HG10 := Lib.hid hs9
        clear hb9 hs9
        refine ⟨HU10.out, ?_⟩
        refine chainP_one ?_
        intro E hE
        go_wp2_with (go_at_call 42
                     refine (tm_Number (compT (⟨#[58, 45]⟩ : ByteArray) [X, Y]) _ _ _ (by simp only [compT, Tm.size, sizeL]; omega) HT10.out).mono ?_
                     rintro e u11_ ⟨vn, rfl, hi11, hb11⟩
                     obtain ⟨an, cn, rfl⟩ := hi11.form
                     have HF11_ := Lib.hid hi11.any
                     have HB11_ := Lib.hid hb11
                     clear hi11 hb11)
        have HU12 := Lib.hid (HU10.out.trans (HB11_.out.mono HU10.out.size))
        have HS12 := Lib.hid (HS10.out.below HB11_.out)
        have HT12 := Lib.hid (HT10.out.below HB11_.out)
        have HG12 := Lib.hid (HG10.out.below HB11_.out)
        have HF12 := HF11_
        refine ⟨HU12.out, ?_⟩
        refine chainP_nil ?_
        have hbd : (compT (⟨#[58, 45]⟩ : ByteArray) [X', Y']).size ≤ 1000000 := by simp only [compT, Tm.size, sizeL]; omega
        refine rest_lineL 8 12 [_, _, _, _] rfl (by kernel_rfl) (by decide) (by decide) (by kernel_rfl) ?_
        go_wp2_with (first
          | (go_at_call 32
             refine (l9_f _ _ _ _ _).mono ?_
             rintro e wa ⟨rfl, hba⟩
             have hta := comp_is (s := (⟨#[58, 45]⟩ : ByteArray)) (l := [X', Y']) (HG12.out.below hba)
             have HTA := Lib.hid hta
             have HBA := Lib.hid hba
             have HFA := Lib.hid (HF12.out.below hba)
             clear hba hta)
          | (go_at_call 42
             refine (tm_Number (compT (⟨#[58, 45]⟩ : ByteArray) [X', Y']) _ _ _ (by omega) HTA.out).mono ?_
             rintro e wb ⟨vn2, rfl, hib, hbb⟩
             rw [HNUM.out] at hib
             obtain ⟨an2, cn2, rfl⟩ := hib.form
             have HIB := Lib.hid hib
             have HBB := Lib.hid hbb
             have HFB := Lib.hid (HFA.out.below hbb)
             clear hib hbb)
          | (go_at_call 19
             refine (Tms.ref_same _ (numT (compT (⟨#[58, 45]⟩ : ByteArray) [X, Y])) (numT (compT (⟨#[58, 45]⟩ : ByteArray) [X, Y])) _ _ _ _ _ (Nat.le_refl _) (by rw [numT_size]; simp only [compT, Tm.size, sizeL]; omega) HFB.out HIB.out).mono ?_
             rintro e wc ⟨rfl, hbc⟩
             rw [sameT_self]
             have HBC := Lib.hid hbc
             clear hbc))
        refine then_rest (rest_end (by decide) ?_)
        go_wp2
        go_ret
        exact says rfl (HBE.out.trans ((HU12.out.trans ((HBA.out.trans ((HBB.out.trans (HBC.out.mono HBB.out.size)).mono HBA.out.size)).mono HU12.out.size)).mono HBE.out.size))
    · intro E hE
      go_wp2
      have hb13 := below_new u1_ (.cells #[.int .i64 X'.k, .int .i64 X'.n, .string X'.s, .slice p1 X'.args.length q1, .int .i64 Y'.k, .int .i64 Y'.n, .string Y'.s, .slice p2 Y'.args.length q2] 27 (0, 0))
      have hs13 := row2 (HX'.out.below HU2.out) (HY'.out.below HU2.out)
      generalize u1_.alloc (.cells #[.int .i64 X'.k, .int .i64 X'.n, .string X'.s, .slice p1 X'.args.length q1, .int .i64 Y'.k, .int .i64 Y'.n, .string Y'.s, .slice p2 Y'.args.length q2] 27 (0, 0)) = u13_ at *
      have HU14 := Lib.hid (HU2.out.trans (hb13.mono HU2.out.size))
      have HS14 := Lib.hid (HS2.out.below hb13)
      have HG14 := Lib.hid hs13
      clear hb13 hs13
      refine ⟨HU14.out, ?_⟩
      refine chainP_one ?_
      intro E hE
      go_wp2_with (go_at_call 32
                   refine (l9_f _ _ _ _ _).mono ?_
                   rintro e u15_ ⟨rfl, hb15⟩
                   have ht15 := comp_is (s := (⟨#[58, 45]⟩ : ByteArray)) (l := [X, Y]) (HS14.out.below hb15)
                   have HT15_ := Lib.hid ht15
                   have HB15_ := Lib.hid hb15
                   clear hb15 ht15)
      have HU16 := Lib.hid (HU14.out.trans (HB15_.out.mono HU14.out.size))
      have HS16 := Lib.hid (HS14.out.below HB15_.out)
      have HG16 := Lib.hid (HG14.out.below HB15_.out)
      have HT16 := HT15_
      refine ⟨HU16.out, ?_⟩
      refine chainP_one ?_
      intro E hE
      go_wp2_with (go_at_call 42
                   refine (tm_Number (compT (⟨#[58, 45]⟩ : ByteArray) [X, Y]) _ _ _ (by simp only [compT, Tm.size, sizeL]; omega) HT16.out).mono ?_
                   rintro e u17_ ⟨vn, rfl, hi17, hb17⟩
                   obtain ⟨an, cn, rfl⟩ := hi17.form
                   have HF17_ := Lib.hid hi17.any
                   have HB17_ := Lib.hid hb17
                   clear hi17 hb17)
      have HU18 := Lib.hid (HU16.out.trans (HB17_.out.mono HU16.out.size))
      have HS18 := Lib.hid (HS16.out.below HB17_.out)
      have HT18 := Lib.hid (HT16.out.below HB17_.out)
      have HG18 := Lib.hid (HG16.out.below HB17_.out)
      have HF18 := HF17_
      refine ⟨HU18.out, ?_⟩
      refine chainP_nil ?_
      have hbd : (compT (⟨#[58, 45]⟩ : ByteArray) [X', Y']).size ≤ 1000000 := by simp only [compT, Tm.size, sizeL]; omega
      refine rest_lineL 8 12 [_, _, _, _] rfl (by kernel_rfl) (by decide) (by decide) (by kernel_rfl) ?_
      go_wp2_with (first
        | (go_at_call 32
           refine (l9_f _ _ _ _ _).mono ?_
           rintro e wa ⟨rfl, hba⟩
           have hta := comp_is (s := (⟨#[58, 45]⟩ : ByteArray)) (l := [X', Y']) (HG18.out.below hba)
           have HTA := Lib.hid hta
           have HBA := Lib.hid hba
           have HFA := Lib.hid (HF18.out.below hba)
           clear hba hta)
        | (go_at_call 42
           refine (tm_Number (compT (⟨#[58, 45]⟩ : ByteArray) [X', Y']) _ _ _ (by omega) HTA.out).mono ?_
           rintro e wb ⟨vn2, rfl, hib, hbb⟩
           rw [HNUM.out] at hib
           obtain ⟨an2, cn2, rfl⟩ := hib.form
           have HIB := Lib.hid hib
           have HBB := Lib.hid hbb
           have HFB := Lib.hid (HFA.out.below hbb)
           clear hib hbb)
        | (go_at_call 19
           refine (Tms.ref_same _ (numT (compT (⟨#[58, 45]⟩ : ByteArray) [X, Y])) (numT (compT (⟨#[58, 45]⟩ : ByteArray) [X, Y])) _ _ _ _ _ (Nat.le_refl _) (by rw [numT_size]; simp only [compT, Tm.size, sizeL]; omega) HFB.out HIB.out).mono ?_
           rintro e wc ⟨rfl, hbc⟩
           rw [sameT_self]
           have HBC := Lib.hid hbc
           clear hbc))
      refine then_rest (rest_end (by decide) ?_)
      go_wp2
      go_ret
      exact says rfl (HBE.out.trans ((HU18.out.trans ((HBA.out.trans ((HBB.out.trans (HBC.out.mono HBB.out.size)).mono HBA.out.size)).mono HU18.out.size)).mono HBE.out.size))
  · intro E hE
    go_wp2
    have hb19 := below_new V0 (.cells #[.int .i64 X'.k, .int .i64 X'.n, .string X'.s, .slice p1 X'.args.length q1, .int .i64 Y'.k, .int .i64 Y'.n, .string Y'.s, .slice p2 Y'.args.length q2] 27 (0, 0))
    have hs19 := row2 (HX'.out.below HU0.out) (HY'.out.below HU0.out)
    generalize V0.alloc (.cells #[.int .i64 X'.k, .int .i64 X'.n, .string X'.s, .slice p1 X'.args.length q1, .int .i64 Y'.k, .int .i64 Y'.n, .string Y'.s, .slice p2 Y'.args.length q2] 27 (0, 0)) = u19_ at *
    have HU20 := Lib.hid (HU0.out.trans (hb19.mono HU0.out.size))
    have HG20 := Lib.hid hs19
    clear hb19 hs19
    refine ⟨HU20.out, ?_⟩
    refine chainP_one ?_
    intro E hE
    go_wp2
    have hb21 := below_new u19_ (.cells #[.int .i64 X.k, .int .i64 X.n, .string X.s, .slice b1 X.args.length k1, .int .i64 Y.k, .int .i64 Y.n, .string Y.s, .slice b2 Y.args.length k2] 27 (0, 0))
    have hs21 := row2 (HX.out.below HU20.out) (HY.out.below HU20.out)
    generalize u19_.alloc (.cells #[.int .i64 X.k, .int .i64 X.n, .string X.s, .slice b1 X.args.length k1, .int .i64 Y.k, .int .i64 Y.n, .string Y.s, .slice b2 Y.args.length k2] 27 (0, 0)) = u21_ at *
    have HU22 := Lib.hid (HU20.out.trans (hb21.mono HU20.out.size))
    have HG22 := Lib.hid (HG20.out.below hb21)
    have HS22 := Lib.hid hs21
    clear hb21 hs21
    refine ⟨HU22.out, ?_⟩
    refine chainP_one ?_
    intro E hE
    go_wp2_with (go_at_call 32
                 refine (l9_f _ _ _ _ _).mono ?_
                 rintro e u23_ ⟨rfl, hb23⟩
                 have ht23 := comp_is (s := (⟨#[58, 45]⟩ : ByteArray)) (l := [X, Y]) (HS22.out.below hb23)
                 have HT23_ := Lib.hid ht23
                 have HB23_ := Lib.hid hb23
                 clear hb23 ht23)
    have HU24 := Lib.hid (HU22.out.trans (HB23_.out.mono HU22.out.size))
    have HS24 := Lib.hid (HS22.out.below HB23_.out)
    have HG24 := Lib.hid (HG22.out.below HB23_.out)
    have HT24 := HT23_
    refine ⟨HU24.out, ?_⟩
    refine chainP_one ?_
    intro E hE
    go_wp2_with (go_at_call 42
                 refine (tm_Number (compT (⟨#[58, 45]⟩ : ByteArray) [X, Y]) _ _ _ (by simp only [compT, Tm.size, sizeL]; omega) HT24.out).mono ?_
                 rintro e u25_ ⟨vn, rfl, hi25, hb25⟩
                 obtain ⟨an, cn, rfl⟩ := hi25.form
                 have HF25_ := Lib.hid hi25.any
                 have HB25_ := Lib.hid hb25
                 clear hi25 hb25)
    have HU26 := Lib.hid (HU24.out.trans (HB25_.out.mono HU24.out.size))
    have HS26 := Lib.hid (HS24.out.below HB25_.out)
    have HT26 := Lib.hid (HT24.out.below HB25_.out)
    have HG26 := Lib.hid (HG24.out.below HB25_.out)
    have HF26 := HF25_
    refine ⟨HU26.out, ?_⟩
    refine chainP_nil ?_
    have hbd : (compT (⟨#[58, 45]⟩ : ByteArray) [X', Y']).size ≤ 1000000 := by simp only [compT, Tm.size, sizeL]; omega
    refine rest_lineL 8 12 [_, _, _, _] rfl (by kernel_rfl) (by decide) (by decide) (by kernel_rfl) ?_
    go_wp2_with (first
      | (go_at_call 32
         refine (l9_f _ _ _ _ _).mono ?_
         rintro e wa ⟨rfl, hba⟩
         have hta := comp_is (s := (⟨#[58, 45]⟩ : ByteArray)) (l := [X', Y']) (HG26.out.below hba)
         have HTA := Lib.hid hta
         have HBA := Lib.hid hba
         have HFA := Lib.hid (HF26.out.below hba)
         clear hba hta)
      | (go_at_call 42
         refine (tm_Number (compT (⟨#[58, 45]⟩ : ByteArray) [X', Y']) _ _ _ (by omega) HTA.out).mono ?_
         rintro e wb ⟨vn2, rfl, hib, hbb⟩
         rw [HNUM.out] at hib
         obtain ⟨an2, cn2, rfl⟩ := hib.form
         have HIB := Lib.hid hib
         have HBB := Lib.hid hbb
         have HFB := Lib.hid (HFA.out.below hbb)
         clear hib hbb)
      | (go_at_call 19
         refine (Tms.ref_same _ (numT (compT (⟨#[58, 45]⟩ : ByteArray) [X, Y])) (numT (compT (⟨#[58, 45]⟩ : ByteArray) [X, Y])) _ _ _ _ _ (Nat.le_refl _) (by rw [numT_size]; simp only [compT, Tm.size, sizeL]; omega) HFB.out HIB.out).mono ?_
         rintro e wc ⟨rfl, hbc⟩
         rw [sameT_self]
         have HBC := Lib.hid hbc
         clear hbc))
    refine then_rest (rest_end (by decide) ?_)
    go_wp2
    go_ret
    exact says rfl (HBE.out.trans ((HU26.out.trans ((HBA.out.trans ((HBB.out.trans (HBC.out.mono HBB.out.size)).mono HBA.out.size)).mono HU26.out.size)).mono HBE.out.size))
end Go.Proofs.Ytmlceamcpelklaa.Tms
