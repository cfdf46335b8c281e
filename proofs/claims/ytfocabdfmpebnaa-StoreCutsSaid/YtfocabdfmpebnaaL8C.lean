
/-
  StoreCuts, walked over the program.
-/
import Derived.Test.YtfocabdfmpebnaaSla
namespace Go.Proofs.Ytfocabdfmpebnaa.Tms
open Go Go.RowKit Go.Proofs.Ytfocabdfmpebnaa.Reg Go.Proofs.Ytfocabdfmpebnaa.Rws Go.Proofs.Ytfocabdfmpebnaa.Maps
set_option linter.unusedVariables false
set_option linter.unusedSimpArgs false

set_option maxRecDepth 100000 in
set_option maxHeartbeats 4000000 in
theorem law_cuts (L M : List Pt) (v1 v2 : Value) (w : World) (h1 : PtSl w v1 L) (h2 : PtSl w v2 M) : Calls Try.prog 3 #[v1, v2] w (Says true w) := by
  obtain ⟨a1, c1, rfl, hc1, hm1⟩ := h1.form
  obtain ⟨a2, c2, rfl, hc2, hm2⟩ := h2.form
  have H1 := Lib.hid h1
  have H2 := Lib.hid h2
  clear h1 h2
  by_cases g1 : 60 < L.length
  · have d1 : decide (60 < (L.length : Int)) = true := by simp; omega
    go_enter Try.func3, Try.ntmps3
    go_wp2_with fail
    refine (alive8 _).mono ?_; rintro e1 w1 ⟨rfl, hb1⟩; have HB := Lib.hid hb1; clear hb1
    go_wp2_with fail
    refine (ref_great L _ _ (H1.out.below HB.out)).mono ?_; rintro e2 w2 ⟨rfl, rfl⟩
    go_wp2
    go_ret
    exact ⟨rfl, HB.out⟩
  have d1 : decide (60 < (L.length : Int)) = false := by simp; omega
  by_cases g2 : 60 < M.length
  · have d2 : decide (60 < (M.length : Int)) = true := by simp; omega
    go_enter Try.func3, Try.ntmps3
    go_wp2_with fail
    refine (alive8 _).mono ?_; rintro e1 w1 ⟨rfl, hb1⟩; have HB := Lib.hid hb1; clear hb1
    go_wp2_with fail
    refine (ref_great L _ _ (H1.out.below HB.out)).mono ?_; rintro e2 w2 ⟨rfl, rfl⟩
    go_wp2_with fail
    refine (ref_great M _ _ (H2.out.below HB.out)).mono ?_; rintro e2 w2 ⟨rfl, rfl⟩
    go_wp2
    go_ret
    exact ⟨rfl, HB.out⟩
  have d2 : decide (60 < (M.length : Int)) = false := by simp; omega
  have z1 := goodT_size L
  have z2 := goodT_size M
  have F := Lib.hid (cut_facts (goodT L) (goodT M) (good_check L (by omega)) (good_check M (by omega)) (by omega) (by omega))
  have hbs := backT_size ct0 (goodT L)
  have hss := sameT_refl (backT ct0 (goodT L))
  have ZT : (backT ct0 (goodT L)).size ≤ 2000 := by omega
  have SS := Lib.hid hss
  clear hbs hss
  go_enter Try.func3, Try.ntmps3
  go_wp2_with fail
  refine (alive8 _).mono ?_; rintro e1 w1 ⟨rfl, hb1⟩; have HB := Lib.hid hb1; clear hb1
  go_wp2_with fail
  refine (ref_great L _ _ (H1.out.below HB.out)).mono ?_; rintro e2 w2 ⟨rfl, rfl⟩
  go_wp2_with fail
  refine (ref_great M _ _ (H2.out.below HB.out)).mono ?_; rintro e2 w2 ⟨rfl, rfl⟩
  go_wp2_with fail
  refine (law_New w w1 HB.out 1000 (by decide) (by decide)).mono ?_
  rintro e2 w2 ⟨rfl, D2, hl2, hb2⟩
  have HL2 := Lib.hid (show Law8 w w1.heap.size ct0 D2 w2 from hl2)
  clear hl2 hb2 HB
  generalize w1.heap.size = p at *
  go_wp2_with fail
  refine (ref_good L _ _ (by omega) (H1.out.below HL2.out.bel)).mono ?_
  rintro e3 w3 ⟨v3, rfl, hi3, hb3⟩
  obtain ⟨b1, k1, rfl⟩ := hi3.form
  have HI3 := Lib.hid hi3
  have HD2 := Lib.hid HL2.out.dl
  have HL3 := Lib.hid (HL2.out.below hb3).1
  clear hi3 hb3 HL2 H1
  go_wp2_with fail
  refine (law_Put HL3.out F.out.i0 HI3.out (fun b hb e => by have := HD2.out b e; rcases hb with hb | hb; exact hb; omega) F.out.m1 (by omega)).mono ?_
  intro e4 w4 hp4
  obtain ⟨he4, D4, hl4, st4⟩ := hp4
  have he4' : e4 = .returned (.tuple #[.int .i64 0, .int .i64 0]) := he4
  subst he4'
  have HL4 := Lib.hid (show Law8 w p (ct1 (goodT L)) D4 w4 from hl4)
  clear he4 hl4 HI3 HL3 HD2
  go_wp2_with fail
  refine (sto_Cells _ HL4.out.sto).mono ?_
  rintro e5 w5 ⟨rfl, rfl⟩
  go_wp2_with fail
  refine (ref_good M _ _ (by omega) (H2.out.below HL4.out.bel)).mono ?_
  rintro e5 w5 ⟨v5, rfl, hi5, hb5⟩
  obtain ⟨b2, k2, rfl⟩ := hi5.form
  have HI5 := Lib.hid hi5
  have HD4 := Lib.hid HL4.out.dl
  have HL5 := Lib.hid (HL4.out.below hb5).1
  clear hi5 hb5 HL4 H2
  go_wp2_with fail
  refine (law_Put HL5.out F.out.i1 HI5.out (fun b hb e => by have := HD4.out b e; rcases hb with hb | hb; exact hb; omega) F.out.m2 (by omega)).mono ?_
  rintro e6 w6 ⟨rfl, D6, hl6, st6⟩
  have HL6 := Lib.hid (show Law8 w p (ct2 (goodT L) (goodT M)) D6 w6 from hl6)
  clear hl6 st6 HI5 HL5 HD4
  dsimp only
  go_wp2_with fail
  refine (law_Get HL6.out F.out.i2 0 F.out.t2 ZT (by have := F.out.n2; omega)).mono ?_
  rintro e7 w7 ⟨a7, c7, rfl, hl7, -, hi7⟩
  obtain ⟨hl8, st8, hf8, hr8⟩ := hl7.alloc (.cells #[.int .i64 (backT ct0 (goodT L)).k, .int .i64 (backT ct0 (goodT L)).n, .string (backT ct0 (goodT L)).s, .slice a7 (backT ct0 (goodT L)).args.length c7] 33 (0, 0))
  have HL8 := Lib.hid hl8
  have HI8 := Lib.hid (hi7.step st8)
  have HR8 := Lib.hid (show RowF D6 _ _ _ from ⟨hf8, hr8⟩)
  clear HL6 hl7 hi7 hl8 st8 hf8 hr8
  dsimp only
  go_wp2_with fail
  generalize w7.alloc (.cells #[.int .i64 (backT ct0 (goodT L)).k, .int .i64 (backT ct0 (goodT L)).n, .string (backT ct0 (goodT L)).s, .slice a7 (backT ct0 (goodT L)).args.length c7] 33 (0, 0)) = w8 at *
  generalize w7.heap.size = r12 at *
  refine (law_Fresh HL8.out F.out.i2 F.out.n3).mono ?_
  rintro e9 w9 ⟨rfl, D9, hl9, st9⟩
  have HL9 := Lib.hid (show Law8 w p (ct3 (goodT L) (goodT M)) D9 w9 from hl9)
  have HI9 := Lib.hid (HI8.out.step st9)
  have HR9 := Lib.hid (HR8.out.step st9)
  clear hl9 st9 HL8 HI8 HR8
  dsimp only
  go_wp2_with fail
  refine (law_Bind HL9.out F.out.i3 _ 0).mono ?_
  intro e10 w10 hp10
  obtain ⟨he10, D10, hl10, st10⟩ := hp10
  have he10' : e10 = .returned (.int .i64 0) := he10.trans (by rw [show bindE (ct3 (goodT L) (goodT M)) (ct2 (goodT L) (goodT M)).cells.length 0 = 0 from F.out.be])
  subst he10'
  rw [show bindW (ct3 (goodT L) (goodT M)) (ct2 (goodT L) (goodT M)).cells.length 0 = ct4 (goodT L) (goodT M) from F.out.bw] at hl10
  have HL10 := Lib.hid hl10
  have HI10 := Lib.hid (HI9.out.step st10)
  have HR10 := Lib.hid (HR9.out.step st10)
  clear he10 hl10 st10 HL9 HI9 HR9
  dsimp only
  go_wp2_with fail
  refine (law_Cut HL10.out F.out.i4 _).mono ?_
  rintro e11 w11 ⟨rfl, D11, hl11, st11⟩
  rw [F.out.s4] at hl11
  rw [F.out.c4]
  have HL11 := Lib.hid hl11
  have HI11 := Lib.hid (HI10.out.step st11)
  have HR11 := Lib.hid (HR10.out.step st11)
  clear hl11 st11 HL10 HI10 HR10
  dsimp only
  go_wp2_with fail
  refine (law_Undo HL11.out F.out.i4 0).mono ?_
  rintro e12 w12 ⟨rfl, D12, hl12, st12⟩
  rw [F.out.un] at hl12
  have HL12 := Lib.hid hl12
  have HI12 := Lib.hid (HI11.out.step st12)
  have HR12 := Lib.hid (HR11.out.step st12)
  clear hl12 st12 HL11 HI11 HR11
  dsimp only
  go_wp2_with fail
  refine (law_Cut HL12.out F.out.i3 _).mono ?_
  rintro e13 w13 ⟨rfl, D13, hl13, st13⟩
  rw [F.out.s3] at hl13
  rw [F.out.c3]
  have HL13 := Lib.hid hl13
  have HI13 := Lib.hid (HI12.out.step st13)
  have HR13 := Lib.hid (HR12.out.step st13)
  clear hl13 st13 HL12 HI12 HR12
  dsimp only
  go_wp2_with fail
  refine (sto_Cells _ HL13.out.sto).mono ?_
  rintro e14 w14 ⟨rfl, rfl⟩
  go_wp2_with fail
  refine (law_Get HL13.out F.out.i1 0 F.out.t1 ZT F.out.n1).mono ?_
  rintro e15 w15 ⟨a15, c15, rfl, hl15, st15, hi15⟩
  obtain ⟨hl16, st16, hf16, hr16⟩ := hl15.alloc (.cells #[.int .i64 (backT ct0 (goodT L)).k, .int .i64 (backT ct0 (goodT L)).n, .string (backT ct0 (goodT L)).s, .slice a15 (backT ct0 (goodT L)).args.length c15] 33 (0, 0))
  have HL16 := Lib.hid hl16
  have HI16 := Lib.hid ((HI13.out.step st15).step st16)
  have HR16 := Lib.hid ((HR13.out.step st15).step st16)
  have HJ16 := Lib.hid (hi15.step st16)
  have HQ16 := Lib.hid (show RowF D13 _ _ _ from ⟨hf16, hr16⟩)
  clear HL13 HI13 HR13 hl15 st15 hi15 hl16 st16 hf16 hr16
  dsimp only
  go_wp2_with fail
  generalize w15.alloc (.cells #[.int .i64 (backT ct0 (goodT L)).k, .int .i64 (backT ct0 (goodT L)).n, .string (backT ct0 (goodT L)).s, .slice a15 (backT ct0 (goodT L)).args.length c15] 33 (0, 0)) = w16 at *
  generalize w15.heap.size = r16 at *
  refine (law_Get_no HL16.out _ (by omega)).mono ?_
  rintro e17 w17 ⟨rfl, hl17, st17⟩
  obtain ⟨hl18, st18, hf18, hr18⟩ := hl17.alloc (.cells #[.int .i64 zeroTm.k, .int .i64 zeroTm.n, .string zeroTm.s, .slice none zeroTm.args.length 0] 33 (0, 0))
  have HL18 := Lib.hid hl18
  have HI18 := Lib.hid ((HI16.out.step st17).step st18)
  have HR18 := Lib.hid ((HR16.out.step st17).step st18)
  have HJ18 := Lib.hid ((HJ16.out.step st17).step st18)
  have HQ18 := Lib.hid ((HQ16.out.step st17).step st18)
  clear HL16 HI16 HR16 HJ16 HQ16 hl17 st17 hl18 st18 hf18 hr18
  dsimp only
  obtain ⟨x0, x1, x2, x3⟩ := row4 HR18.out.2
  obtain ⟨y0, y1, y2, y3⟩ := row4 HQ18.out.2
  go_wp2_with fail
  refine (ref_same _ _ _ _ _ _ _ _ (Nat.le_refl _) (by omega) HJ18.out HI18.out).mono ?_
  rintro e19 w19 ⟨rfl, hb19⟩
  have HB19 := Lib.hid (HL18.out.bel.trans (hb19.mono HL18.out.bel.size))
  rw [SS.out]
  clear hb19 x0 x1 x2 x3 y0 y1 y2 y3
  go_wp2
  go_ret
  exact ⟨rfl, HB19.out⟩
end Go.Proofs.Ytfocabdfmpebnaa.Tms
