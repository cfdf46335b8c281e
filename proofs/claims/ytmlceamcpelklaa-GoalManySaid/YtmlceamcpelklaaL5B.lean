
/-
  GoalBodies, walked over the program.
-/
import Derived.Test.YtmlceamcpelklaaAl6
import Derived.Test.YtmlceamcpelklaaPl6
import Derived.Test.YtmlceamcpelklaaChn
import Derived.Test.YtmlceamcpelklaaChm
import Derived.Test.YtmlceamcpelklaaNumP
import Derived.Test.YtmlceamcpelklaaRall
namespace Go.Proofs.Ytmlceamcpelklaa.Tms
open Go Go.RowKit Go.Proofs.Ytmlceamcpelklaa.Reg Go.Proofs.Ytmlceamcpelklaa.Rws
set_option linter.unusedVariables false

theorem sameL_self : ∀ l : List Tm, sameL l l = true
  | [] => by simp [sameL]
  | t :: l => by simp [sameL, sameT_self t, sameL_self l]
set_option maxRecDepth 100000 in
set_option maxHeartbeats 8000000 in
theorem law_bodies (L M : List Pt) (v1 v2 : Value) (w : World) (h1 : PtSl w v1 L) (h2 : PtSl w v2 M) : Calls Try.prog 5 #[v1, v2] w (Says true w) := by
  obtain ⟨a1, c1, rfl, hc1, hm1⟩ := h1.form
  obtain ⟨a2, c2, rfl, hc2, hm2⟩ := h2.form
  have H1 := Lib.hid h1
  have H2 := Lib.hid h2
  clear h1 h2
  by_cases g1 : 60 < L.length
  · have d1 : decide (60 < (L.length : Int)) = true := by simp; omega
    go_enter Try.func5, Try.ntmps5
    go_wp2_with (first
      | (go_at_call 14; refine (l5_alive _).mono ?_; rintro e1 w1 ⟨rfl, hb1⟩; have HB := Lib.hid hb1; clear hb1)
      | (refine (ref_great L _ _ (H1.out.below HB.out)).mono ?_; rintro e2 w2 ⟨rfl, rfl⟩))
    go_ret
    exact ⟨rfl, HB.out⟩
  have d1 : decide (60 < (L.length : Int)) = false := by simp; omega
  by_cases g2 : 60 < M.length
  · have d2 : decide (60 < (M.length : Int)) = true := by simp; omega
    go_enter Try.func5, Try.ntmps5
    go_wp2_with fail
    refine (l5_alive _).mono ?_; rintro e1 w1 ⟨rfl, hb1⟩; have HB := Lib.hid hb1; clear hb1
    go_wp2_with fail
    refine (ref_great L _ _ (H1.out.below HB.out)).mono ?_; rintro e2 w2 ⟨rfl, rfl⟩
    go_wp2_with fail
    refine (ref_great M _ _ (H2.out.below HB.out)).mono ?_; rintro e2 w2 ⟨rfl, rfl⟩
    go_wp2
    go_ret
    exact ⟨rfl, HB.out⟩
  have d2 : decide (60 < (M.length : Int)) = false := by simp; omega
  have z1 := goodT_size L
  have z2 := goodT_size M
  obtain ⟨p1, p2⟩ := bodies_law L M (by omega) (by omega)
  have P1 := Lib.hid p1
  have P2 := Lib.hid p2
  have zx := bodE_size (goodT L)
  have zy := bodE_size (goodT M)
  have zc := comma_size (goodT L) (goodT M)
  have zb := bodE_size (compT (⟨#[44]⟩ : ByteArray) [goodT L, goodT M])
  clear p1 p2
  go_enter Try.func5, Try.ntmps5
  go_wp2_with fail
  refine (l5_alive _).mono ?_; rintro e1 w1 ⟨rfl, hb1⟩; have HB := Lib.hid hb1; clear hb1
  go_wp2_with fail
  refine (ref_great L _ _ (H1.out.below HB.out)).mono ?_; rintro e2 w2 ⟨rfl, rfl⟩
  go_wp2_with fail
  refine (ref_great M _ _ (H2.out.below HB.out)).mono ?_; rintro e2 w2 ⟨rfl, rfl⟩
  go_wp2_with fail
  refine (ref_good L _ _ (by omega) (H1.out.below HB.out)).mono ?_
  rintro e3 w3 ⟨v3, rfl, hi3, hb3⟩
  have HB3 := Lib.hid (HB.out.trans (hb3.mono HB.out.size))
  go_wp2_with fail
  refine (goal_Body (goodT L) _ _ _ (by omega) hi3).mono ?_
  generalize hX : goodT L = X at *
  have HXE := Lib.hid hX
  clear hX
  generalize bodE X = RX at *
  obtain ⟨TX, eX⟩ := RX
  simp only [BodEPost]
  rintro e4 w4 ⟨qx, cx, rfl, hi4, -, hb4⟩
  have HVX := Lib.hid (Var.new hi4)
  have HB4 := Lib.hid (HB3.out.trans ((hb4.trans ((below_new w4 (rowT TX qx cx)).mono hb4.size)).mono HB3.out.size))
  clear hi3 hb3 hi4 hb4 HB3 HB
  go_wp2_with fail
  generalize w4.alloc (rowT TX qx cx) = W4 at *
  generalize w4.heap.size = bx at *
  refine (ref_good M _ _ (by omega) (H2.out.below HB4.out)).mono ?_
  rintro e5 w5 ⟨v5, rfl, hi5, hb5⟩
  go_wp2_with fail
  refine (goal_Body (goodT M) _ _ _ (by omega) hi5).mono ?_
  generalize hY : goodT M = Y at *
  have HYE := Lib.hid hY
  clear hY
  generalize bodE Y = RY at *
  obtain ⟨TY, eY⟩ := RY
  simp only [BodEPost]
  rintro e6 w6 ⟨qy, cy, rfl, hi6, -, hb6⟩
  have HVY := Lib.hid (Var.new hi6)
  have hb64 := hb5.trans ((hb6.trans ((below_new w6 (rowT TY qy cy)).mono hb6.size)).mono hb5.size)
  have HB6 := Lib.hid (HB4.out.trans (hb64.mono HB4.out.size))
  replace HVX := Lib.hid (HVX.out.below hb64)
  clear hi5 hb5 hi6 hb6 hb64 HB4
  go_wp2_with fail
  generalize w6.alloc (rowT TY qy cy) = W6 at *
  generalize w6.heap.size = by_ at *
  refine (ref_good L _ _ (by omega) (H1.out.below HB6.out)).mono ?_
  rintro e7 w7 ⟨v7, rfl, hi7, hb7⟩
  rw [HXE.out] at hi7
  have HB7 := Lib.hid (HB6.out.trans (hb7.mono HB6.out.size))
  replace HVX := Lib.hid (HVX.out.below hb7)
  replace HVY := Lib.hid (HVY.out.below hb7)
  clear hb7 HB6
  go_wp2_with fail
  refine (ref_good M _ _ (by omega) (H2.out.below HB7.out)).mono ?_
  rintro e8 w8 ⟨v8, rfl, hi8, hb8⟩
  rw [HYE.out] at hi8
  obtain ⟨q7, k7, rfl⟩ := hi7.form
  obtain ⟨q8, k8, rfl⟩ := hi8.form
  have I7 := Lib.hid (hi7.below hb8).any
  have I8 := Lib.hid hi8.any
  have HB8 := Lib.hid (HB7.out.trans (hb8.mono HB7.out.size))
  replace HVX := Lib.hid (HVX.out.below hb8)
  replace HVY := Lib.hid (HVY.out.below hb8)
  clear hb8 hi7 hi8 HB7
  go_wp2_with fail
  have i9 := row2 (w := w8) (x := X) (y := Y) (a := q7) (c := k7) (a' := q8) (c' := k8) I7.out I8.out
  have hb9 := below_new w8 (.cells #[.int .i64 X.k, .int .i64 X.n, .string X.s, .slice q7 X.args.length k7, .int .i64 Y.k, .int .i64 Y.n, .string Y.s, .slice q8 Y.args.length k8] 27 (0, 0))
  refine (l5_f _ _ _ _ _).mono ?_
  rintro e10 w10 ⟨rfl, hb10⟩
  have hb108 := hb9.trans (hb10.mono hb9.size)
  have I10 : Hid (IsTm w10 AnyB (compV (⟨#[44]⟩ : ByteArray) (some ⟨w8.heap.size, 0, none⟩) 2 2) (compT (⟨#[44]⟩ : ByteArray) [X, Y])) := Lib.hid (comp_is (l := [X, Y]) (i9.below hb10))
  have HB10 := Lib.hid (HB8.out.trans (hb108.mono HB8.out.size))
  replace HVX := Lib.hid (HVX.out.below hb108)
  replace HVY := Lib.hid (HVY.out.below hb108)
  clear i9 hb9 hb10 hb108 I7 I8 HB8
  go_wp2_with fail
  have hgb := goal_Body (compT (⟨#[44]⟩ : ByteArray) [X, Y]) _ AnyB _ (by omega) I10.out
  refine hgb.mono ?_
  clear hgb
  generalize bodE (compT (⟨#[44]⟩ : ByteArray) [X, Y]) = RC at *
  obtain ⟨TC, eC⟩ := RC
  simp only [BodEPost]
  rintro e11 w11 ⟨qc, cc, rfl, hi11, -, hb11⟩
  have hb1110 := hb11.trans ((below_new w11 (rowT TC qc cc)).mono hb11.size)
  have HVC := Lib.hid (Var.new hi11)
  have HB11 := Lib.hid (HB10.out.trans (hb1110.mono HB10.out.size))
  replace HVX := Lib.hid (HVX.out.below hb1110)
  replace HVY := Lib.hid (HVY.out.below hb1110)
  clear hi11 hb11 hb1110 HB10 I10
  by_cases ex : eX = 0
  case neg =>
    have b1 : (eX != 0) = true := by simpa using ex
    have b2 : (eC == 13) = true := by have := P1.out (.inl ex); simpa using this
    go_wp2
    go_ret
    exact ⟨rfl, HB11.out⟩
  by_cases ey : eY = 0
  case neg =>
    have b1 : (eX != 0) = false := by simpa using ex
    have b1' : (eY != 0) = true := by simpa using ey
    have b2 : (eC == 13) = true := by have := P1.out (.inr ey); simpa using this
    go_wp2
    go_ret
    exact ⟨rfl, HB11.out⟩
  subst ex
  subst ey
  obtain ⟨r1, r2, r3⟩ := P2.out rfl rfl
  simp only [Prod.mk.injEq] at r1 r2 r3 zx zy zb
  obtain ⟨rfl, rfl⟩ := r1
  have R2 := Lib.hid r2
  have R3 := Lib.hid r3
  have zc2 := comma_size TX TY
  have SZ : Hid (TX.size ≤ 2000 ∧ TY.size ≤ 2000 ∧ (compT (⟨#[44]⟩ : ByteArray) [TX, TY]).size ≤ 2000) := Lib.hid ⟨by omega, by omega, by omega⟩
  clear r2 r3 P1 P2 zx zy zb zc zc2 z1 z2
  obtain ⟨x0, x1, x2, x3⟩ := row4 HVX.out.row
  go_wp2_with fail
  generalize w11.alloc (rowT (compT (⟨#[44]⟩ : ByteArray) [TX, TY]) qc cc) = W11 at *
  generalize w11.heap.size = bc at *
  clear x0 x1 x2 x3
  refine (goal_Body TX _ _ _ (by have := SZ.out; omega) HVX.out.is).mono ?_
  rw [R2.out]
  simp only [BodEPost]
  rintro e12 w12 ⟨qa, ca, rfl, hi12, -, hb12⟩
  have hb1211 := hb12.trans ((below_new w12 (rowT TX qa ca)).mono hb12.size)
  have HVA := Lib.hid (Var.new hi12)
  have HB12 := Lib.hid (HB11.out.trans (hb1211.mono HB11.out.size))
  replace HVX := Lib.hid (HVX.out.below hb1211)
  replace HVY := Lib.hid (HVY.out.below hb1211)
  replace HVC := Lib.hid (HVC.out.below hb1211)
  clear hi12 hb12 hb1211 HB11
  go_wp2
  refine wp_region_rest (by kernel_rfl) ?_
  generalize w12.alloc (rowT TX qa ca) = W12 at *
  generalize w12.heap.size = ba at *
  have hdw : Below W12.heap.size W12 W12.drew := (Below.refl _ _).drew
  replace HVX := Lib.hid (HVX.out.below hdw)
  replace HVY := Lib.hid (HVY.out.below hdw)
  replace HVC := Lib.hid (HVC.out.below hdw)
  replace HVA := Lib.hid (HVA.out.below hdw)
  replace HB12 := Lib.hid (HB12.out.trans (hdw.mono HB12.out.size))
  clear hdw
  generalize W12.drew = W0 at *
  obtain ⟨x0, x1, x2, x3⟩ := row4 HVX.out.row
  obtain ⟨y0, y1, y2, y3⟩ := row4 HVA.out.row
  refine rest_chain 0 21 [(false, [0, 1, 2, 3, 4, 5, 6, 7, 8]), (true, [9]), (false, [10, 11, 12, 13, 14, 15]), (true, [16]), (true, [17]), (true, [18]), (false, [19, 20])] [(false, [_, _, _, _, _, _, _, _, _]), (true, [_]), (false, [_, _, _, _, _, _]), (true, [_]), (true, [_]), (true, [_]), (false, [_, _])] rfl (by kernel_rfl) (by kernel_rfl) rfl (by kernel_rfl) (by kernel_rfl) (.inl rfl) ?_
  refine chain_soft ?_
  intro E hE
  go_wp2
  clear x0 x1 x2 x3 y0 y1 y2 y3
  refine chain_one ?_
  intro E hE
  go_wp2_with (refine (ref_same _ TX TX _ _ _ _ _ (Nat.le_refl _) (by have := SZ.out; omega) HVA.out.is HVX.out.is).mono ?_; rintro e13 w13 ⟨rfl, hb13⟩; rw [sameT_self]; have HB13 := Lib.hid hb13; clear hb13)
  refine ⟨HB13.out, ?_⟩
  replace HVX := Lib.hid (HVX.out.below HB13.out)
  replace HVY := Lib.hid (HVY.out.below HB13.out)
  replace HVC := Lib.hid (HVC.out.below HB13.out)
  replace HB13 := Lib.hid (HB12.out.trans (HB13.out.mono HB12.out.size))
  clear HB12 HVA
  obtain ⟨x0, x1, x2, x3⟩ := row4 HVX.out.row
  obtain ⟨y0, y1, y2, y3⟩ := row4 HVY.out.row
  obtain ⟨z0, z1, z2, z3⟩ := row4 HVC.out.row
  refine chain_soft ?_
  intro E hE
  go_wp2
  clear x0 x1 x2 x3 y0 y1 y2 y3 z0 z1 z2 z3
  refine chain_one ?_
  intro E hE
  go_wp2
  have i14 := row2 (w := w13) (x := TX) (y := TY) (a := qx) (c := cx) (a' := qy) (c' := cy) HVX.out.is HVY.out.is
  have hb14 := below_new w13 (.cells #[.int .i64 TX.k, .int .i64 TX.n, .string TX.s, .slice qx TX.args.length cx, .int .i64 TY.k, .int .i64 TY.n, .string TY.s, .slice qy TY.args.length cy] 27 (0, 0))
  refine ⟨hb14, ?_⟩
  have I14 := Lib.hid i14
  replace HVX := Lib.hid (HVX.out.below hb14)
  replace HVY := Lib.hid (HVY.out.below hb14)
  replace HVC := Lib.hid (HVC.out.below hb14)
  have HB14 := Lib.hid (HB13.out.trans (hb14.mono HB13.out.size))
  clear i14 hb14 HB13
  generalize w13.alloc (.cells #[.int .i64 TX.k, .int .i64 TX.n, .string TX.s, .slice qx TX.args.length cx, .int .i64 TY.k, .int .i64 TY.n, .string TY.s, .slice qy TY.args.length cy] 27 (0, 0)) = w14 at *
  generalize w13.heap.size = n13 at *
  refine chain_one ?_
  intro E hE
  go_wp2_with (refine (l5_f _ _ _ _ _).mono ?_; rintro e15 w15 ⟨rfl, hb15⟩; have HB15 := Lib.hid hb15; clear hb15)
  refine ⟨HB15.out, ?_⟩
  have I15 : Hid (IsTm w15 AnyB (compV (⟨#[44]⟩ : ByteArray) (some ⟨n13, 0, none⟩) 2 2) (compT (⟨#[44]⟩ : ByteArray) [TX, TY])) := Lib.hid (comp_is (l := [TX, TY]) (I14.out.below HB15.out))
  replace HVX := Lib.hid (HVX.out.below HB15.out)
  replace HVY := Lib.hid (HVY.out.below HB15.out)
  replace HVC := Lib.hid (HVC.out.below HB15.out)
  replace HB15 := Lib.hid (HB14.out.trans (HB15.out.mono HB14.out.size))
  clear HB14 I14
  refine chain_one ?_
  intro E hE
  go_wp2_with (refine (ref_same _ (compT (⟨#[44]⟩ : ByteArray) [TX, TY]) (compT (⟨#[44]⟩ : ByteArray) [TX, TY]) _ _ _ _ _ (Nat.le_refl _) (by have := SZ.out; omega) HVC.out.is I15.out).mono ?_; rintro e16 w16 ⟨rfl, hb16⟩; rw [sameT_self]; have HB16 := Lib.hid hb16; clear hb16)
  refine ⟨HB16.out, ?_⟩
  replace HVX := Lib.hid (HVX.out.below HB16.out)
  replace HVY := Lib.hid (HVY.out.below HB16.out)
  replace HVC := Lib.hid (HVC.out.below HB16.out)
  replace HB16 := Lib.hid (HB15.out.trans (HB16.out.mono HB15.out.size))
  clear HB15 I15
  refine chain_soft ?_
  intro E hE
  go_wp2
  refine chain_nil (rest_end (by decide) ?_)
  obtain ⟨z0, z1, z2, z3⟩ := row4 HVC.out.row
  go_wp2_with fail
  clear z0 z1 z2 z3
  have hgf := goal_Flat (compT (⟨#[44]⟩ : ByteArray) [TX, TY]) _ AnyB _ (by have := SZ.out; omega) HVC.out.is
  refine hgf.mono ?_
  clear hgf
  have hsl := flatG_size _ (compT (⟨#[44]⟩ : ByteArray) [TX, TY]) (Nat.le_refl _)
  have hll := flatG_len _ (compT (⟨#[44]⟩ : ByteArray) [TX, TY]) (Nat.le_refl _)
  have FE := Lib.hid (comma_flat TX TY)
  generalize flatG (compT (⟨#[44]⟩ : ByteArray) [TX, TY]) = F at *
  rintro e17 w17 ⟨v17, rfl, ho17, hb17⟩
  have IF := Lib.hid (own_reads ho17)
  obtain ⟨qf, cf, rfl⟩ := IF.out.form
  replace HVX := Lib.hid (HVX.out.below hb17)
  replace HVY := Lib.hid (HVY.out.below hb17)
  have HB17 := Lib.hid (HB16.out.trans (hb17.mono HB16.out.size))
  clear HB16 hb17 ho17 HVC
  go_wp2
  have hst : ∃ q : Nat, q ≤ F.length ∧ (.int .i64 0 : Value) = .int .i64 q ∧ Below w17.heap.size w17 w17 := ⟨0, by omega, rfl, Below.refl _ _⟩
  have HST := Lib.hid hst
  have HLL : F.length ≤ 2000 := by have := SZ.out; omega
  have HSL : sizeL F ≤ 2000 := by have := SZ.out; omega
  clear hst hsl hll
  go_loopw [84] (fun c wr => ∃ q : Nat, q ≤ F.length ∧ c = .int .i64 q ∧ Below w17.heap.size w17 wr) (fun c _ => F.length - (intOf c).toNat)
  case atStart => exact HST.out
  case round =>
    obtain ⟨q, hq, rfl, hbl⟩ := hrel
    clear HST
    have HBL := Lib.hid hbl
    clear hbl
    by_cases hql : q < F.length
    · have hqi : decide ((q : Int) < (F.length : Int)) = true := by simp; omega
      obtain ⟨xb, xo, rfl, -, xt⟩ := (IF.out.below HBL.out).at q hql
      obtain ⟨pa, pc, y0, y1, y2, y3, yi, -⟩ := xt.read
      obtain ⟨k2, k0⟩ := R3.out F[q] (List.getElem_mem hql)
      have hgs : (F[q]).size ≤ 2000 := by have := mem_sizeL (List.getElem_mem hql); omega
      generalize F[q] = G at *
      have b1 : (kindT G == 2) = false := by simpa using k2
      have b2 : decide (kindT G < 0) = false := by simp; omega
      have VG := Lib.hid (Var.new yi)
      have HB1 := Lib.hid (below_new wr (rowT G pa pc))
      clear xt yi k2 k0
      go_wp2_with fail
      generalize wr.alloc (rowT G pa pc) = W1 at *
      refine (goal_Kind G _ _ _ (by omega) VG.out.is).mono ?_
      rintro e2 W2 ⟨rfl, hb2⟩
      replace VG := Lib.hid (VG.out.below hb2)
      have HB2 := Lib.hid (HB1.out.trans (hb2.mono HB1.out.size))
      clear hb2 HB1 y0 y1 y2 y3
      obtain ⟨x0, x1, x2, x3⟩ := row4 VG.out.row
      go_wp2_with fail
      refine (goal_Kind G _ _ _ (by omega) VG.out.is).mono ?_
      rintro e3 W3 ⟨rfl, hb3⟩
      have HB3 := Lib.hid (HB2.out.trans (hb3.mono HB2.out.size))
      have HB4 := Lib.hid (HBL.out.trans (HB3.out.mono HBL.out.size))
      clear hb3 HB2 x0 x1 x2 x3
      go_wp2
      go_roundw
      case rel => exact ⟨q + 1, by omega, by simp, HB4.out⟩
      case measure => simp [intOf]; omega
    · have hqi : decide ((q : Int) < (F.length : Int)) = false := by simp; omega
      replace HVX := Lib.hid (HVX.out.below HBL.out)
      replace HVY := Lib.hid (HVY.out.below HBL.out)
      have IFr := Lib.hid (IF.out.below HBL.out)
      have HBr := Lib.hid (HB17.out.trans (HBL.out.mono HB17.out.size))
      clear HBL IF HB17
      go_wp2
      refine wp_region_rest (by kernel_rfl) ?_
      have hdw : Below wr.heap.size wr wr.drew := (Below.refl _ _).drew
      replace HVX := Lib.hid (HVX.out.below hdw)
      replace HVY := Lib.hid (HVY.out.below hdw)
      replace HBr := Lib.hid (HBr.out.trans (hdw.mono HBr.out.size))
      replace IFr := Lib.hid (IFr.out.below hdw).lt
      clear hdw
      generalize wr.drew = W0 at *
      have IX := Lib.hid (HVX.out.is.lt.imp (P' := fun b => b < W0.heap.size) (fun _ h => h.2) fun _ _ _ => rfl)
      have IY := Lib.hid (HVY.out.is.lt.imp (P' := fun b => b < W0.heap.size) (fun _ h => h.2) fun _ _ _ => rfl)
      obtain ⟨x0, x1, x2, x3⟩ := row4 HVX.out.row
      obtain ⟨y0, y1, y2, y3⟩ := row4 HVY.out.row
      have lx := flatG_len _ TX (Nat.le_refl _)
      have ly := flatG_len _ TY (Nat.le_refl _)
      have ny := flatG_pos _ TY (Nat.le_refl _)
      have hsz := SZ.out
      refine rest_chainB W0.heap.size 0 7 [(false, [0, 1, 3]), (true, [2]), (true, [4]), (true, [5]), (true, [6])] [(false, [_, _, _]), (true, [_]), (true, [_]), (true, [_]), (true, [_])] rfl (by kernel_rfl) (by kernel_rfl) rfl (by kernel_rfl) (by kernel_rfl) (.inr (by kernel_rfl)) ?_
      refine chainB_soft (by omega) ?_
      intro E hE
      go_wp2
      clear x0 x1 x2 x3 y0 y1 y2 y3
      refine chainB_one ?_
      intro E hE
      go_wp2_with (refine (goal_Flat TX _ _ _ (by omega) IX.out).mono ?_; rintro e2 u2 ⟨va, rfl, hoa, hba⟩; have HOA := Lib.hid hoa; have HBA := Lib.hid hba; clear hoa hba)
      refine ⟨HBA.out, ?_⟩
      refine chainB_one ?_
      intro E hE
      go_wp2_with (refine (goal_Flat TY _ _ _ (by omega) (IY.out.below HBA.out)).mono ?_; rintro e4 u4 ⟨vb, rfl, hob, hbb⟩; have HOB := Lib.hid hob; have HBB := Lib.hid hbb; clear hob hbb)
      have hzz : W0.heap.size ≤ u2.heap.size ∧ u2.heap.size ≤ u4.heap.size := ⟨HBA.out.size, HBB.out.size⟩
      refine ⟨HBB.out.mono hzz.1, ?_⟩
      have hlow := HOA.out.low
      have HA := Lib.hid ((Own.mono HOA.out (P' := fun _ => True) fun _ _ _ => trivial).below HBB.out)
      obtain ⟨yss, ⟨r1, r2⟩, r3⟩ := HOB.out
      rcases r2 with ⟨-, hn⟩ | ⟨gb, cb, cur, rfl, hgb, hgc⟩
      · omega
      have hcell := World.ownsRow.cells (g := gb) (⟨r1, .inr ⟨gb, cb, cur, rfl, hgb, hgc⟩⟩ : u4.ownsRow (u2.heap.size + 1) tmKind.T tmKind.sz (.slice (some ⟨gb, 0, none⟩) (flatG TY).length cb) (flatG TY).length yss.flatten) rfl
      have hy : Each tmKind u4 (fun b => True ∧ va.ownBlock ≠ some b) yss (flatG TY) := r3.mono (fun b h => ⟨trivial, fun e => by have := hlow b e; rcases h.1 with h | h <;> omega⟩) fun _ _ _ => rfl
      have hgl : gb < u4.heap.size := (Array.getElem?_eq_some_iff.1 hgc.1).1
      have HCELL := Lib.hid hcell
      have HY := Lib.hid hy
      have HBF := Lib.hid (HBr.out.trans ((HBA.out.trans (HBB.out.mono hzz.1)).mono HBr.out.size))
      have hw0 : w.heap.size ≤ W0.heap.size := HBr.out.size
      have IF4 := Lib.hid (IFr.out.imp (w' := u4) (P' := fun b => b < W0.heap.size) (fun b h => h.2) fun b h _ => (HBB.out.block b (by have := h.2; omega)).trans (HBA.out.block b h.2))
      have FEQ := FE.out
      have b9 : sameL F (flatG TX ++ flatG TY) = true := by rw [FEQ]; exact sameL_self _
      have B9 := Lib.hid b9
      clear b9 FEQ hcell hy r1 r3 hgc IX IY HOA HOB IFr HBA HBB HVX HVY
      refine chainB_one ?_
      intro E hE
      refine wpList_putN (K := tmKind) rfl (.tmp 99) (.tmp 101) _ rfl Try.underlying25 info_tm rfl (W0.heap.size + 1) _ _ (flatG TX) yss (flatG TY) ⟨gb, 0, none⟩ cb rfl HA.out rfl (fun j v hv => HCELL.out j v hv) ny HY.out (by unfold maxLen; omega) (by omega) (by omega) ?_
      intro v9 w9 hown hb9 hgr hv9
      have I9 := Lib.hid (own_reads hown)
      obtain ⟨q9, k9, rfl⟩ := I9.out.form
      have IF9 := Lib.hid (IF4.out.imp (w' := w9) (P' := AnyB) (fun _ _ => trivial) fun b h hb => hgr.block b hb fun e => by have := hlow b e.symm; omega)
      have HF9 := Lib.hid (HBF.out.trans (hb9.mono (by omega)))
      have HZ9 := Lib.hid hgr.size
      have HB9 := Lib.hid (hb9.mono (show W0.heap.size ≤ W0.heap.size + 1 by omega))
      clear hown hb9 hgr hv9 HCELL HY HA IF4 HBF hlow
      go_wp2
      refine ⟨HB9.out, ?_⟩
      refine chainB_one ?_
      intro E hE
      go_wp2_with fail
      have hra := ref_all F (flatG TX ++ flatG TY) _ _ _ _ w9 (by omega) IF9.out I9.out
      rw [B9.out] at hra
      rw [List.length_append] at hra
      refine hra.mono ?_
      clear hra
      rintro e10 w10 ⟨rfl, hb10⟩
      have HF := Lib.hid (HF9.out.trans (hb10.mono HF9.out.size))
      have HB10 := Lib.hid (hb10.mono (show W0.heap.size ≤ w9.heap.size by have := HZ9.out; omega))
      clear hb10
      go_wp2
      refine ⟨HB10.out, ?_⟩
      refine chainB_nil ?_
      refine rest_lineL 7 8 [_] rfl (by kernel_rfl) (by decide) (by decide) (by kernel_rfl) ?_
      go_wp2
      refine then_rest (rest_end (by decide) ?_)
      go_wp2
      go_ret
      exact ⟨rfl, HF.out⟩
end Go.Proofs.Ytmlceamcpelklaa.Tms
