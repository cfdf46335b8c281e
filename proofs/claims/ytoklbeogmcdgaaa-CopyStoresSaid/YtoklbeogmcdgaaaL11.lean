
/-
  CopyStores, walked over the program.
-/
import Derived.Test.YtoklbeogmcdgaaaCpc
import Derived.Test.YtoklbeogmcdgaaaAlc
namespace Go.Proofs.Ytoklbeogmcdgaaa.Tms
open Go Go.RowKit Go.Proofs.Ytoklbeogmcdgaaa.Reg Go.Proofs.Ytoklbeogmcdgaaa.Rws Go.Proofs.Ytoklbeogmcdgaaa.Maps
set_option linter.unusedVariables false
set_option linter.unusedSimpArgs false

def ck0 : Sto := ⟨1000, [], []⟩
theorem ck0_inv : Inv ck0 := Inv.new 1000 (by decide) (by decide)
/-- the stores of the law -/
structure CkIs (X : Tm) (S1 S2 S3 : Sto) : Prop where
  m1 : MayPut ck0 [] X
  e1 : putS ck0 [] X = S1
  i1 : Inv S1
  x1 : 0 < S1.cells.length
  g1 : getE S1 0 = 0
  z1 : (getT S1 0).size ≤ 2000
  m2 : MayPut ck0 [] (numT (getT S1 0))
  e2 : putS ck0 [] (numT (getT S1 0)) = S2
  i2 : Inv S2
  x2 : 0 < S2.cells.length
  g2 : getE S2 0 = 0
  z2 : (getT S2 0).size ≤ 2000
  m3 : MayPut S1 [] (numT (getT S2 0))
  e3 : putS S1 [] (numT (getT S2 0)) = S3
  i3 : Inv S3
  x3 : 0 < S3.cells.length
  y3 : S1.cells.length < S3.cells.length
  g3 : getE S3 0 = 0
  h3 : getE S3 S1.cells.length = 0
  z3 : (getT S3 0).size ≤ 2000
  w3 : (getT S3 S1.cells.length).size ≤ 2000
  al : (cmpT (numT (getT S3 0)) (numT (getT S3 S1.cells.length)) == 0) = true
  sa : sameT (numT (getT S3 0)) (numT (getT S2 0)) = true
theorem ck_is {X : Tm} (hc : checkT X = 0) (hs : X.size ≤ 421) : ∃ S1 S2 S3, CkIs X S1 S2 S3 := by
  have hm := check_may hc
  have m1 : MayPut ck0 [] X := may_put0 hc (by show ((0 : Nat) : Int) + _ ≤ 1000; omega)
  have a1 : WasPut (putS ck0 [] X) 0 X := WasPut.made hc
  obtain ⟨g1, n1, z1, y1⟩ := a1.got (by omega)
  have hcn : checkT (numT X) = 0 := check_zero (num_may hm) (by rw [numT_size]; omega)
  have m2 : MayPut ck0 [] (numT X) := may_put0 hcn (by rw [numT_size]; show ((0 : Nat) : Int) + _ ≤ 1000; omega)
  have a2 : WasPut (putS ck0 [] (numT X)) 0 (numT X) := WasPut.made hcn
  obtain ⟨g2, n2, z2, y2⟩ := a2.got (by rw [numT_size]; omega)
  rw [numT_num] at n2
  rw [numT_size] at z2
  have hl := putS_len ck0 [] X
  have hlen : (putR ck0 [] X).2.1.length ≤ X.size := putT_len (fun n => mget [] n) (lastTop ck0.cells) X ck0.cells.length []
  have hl0 : ck0.cells.length = 0 := rfl
  have m3 : MayPut (putS ck0 [] X) [] (numT X) := may_put0 hcn (by rw [numT_size]; show _ ≤ (1000 : Int); omega)
  have a3 := a1.kept (numT X)
  have b3 : WasPut (putS (putS ck0 [] X) [] (numT X)) (putS ck0 [] X).cells.length (numT X) := WasPut.made hcn
  obtain ⟨g3, n3, z3, y3⟩ := a3.got (by omega)
  obtain ⟨h3, o3, w3, -⟩ := b3.got (by rw [numT_size]; omega)
  rw [numT_num] at o3
  rw [numT_size] at w3
  refine ⟨putS ck0 [] X, putS ck0 [] (numT X), putS (putS ck0 [] X) [] (numT X), m1, rfl, ck0_inv.put m1, a1.lt, g1, by omega, by rw [n1]; exact m2, by rw [n1], ck0_inv.put m2, a2.lt, g2, by omega, by rw [n2]; exact m3, by rw [n2], (ck0_inv.put m1).put m3, a3.lt, b3.lt, g3, h3, by omega, by omega, ?_, ?_⟩
  · rw [n3, o3, cmpT_refl]
    rfl
  · rw [n3, n2]
    exact sameT_self _
set_option maxRecDepth 100000 in
set_option maxHeartbeats 32000000 in
theorem law_cpst (A : List Pt) (u1 : Value) (w : World) (h1 : PtSl w u1 A) : Calls Try.prog 7 #[u1] w (Says true w) := by
  obtain ⟨a1, c1, rfl, hc1, hm1⟩ := h1.form
  unfold maxLen at hm1
  have H1 := Lib.hid h1
  clear h1
  go_enter Try.func7, Try.ntmps7
  go_wp2_with fail
  refine (alive11 _).mono ?_
  rintro e1 w1 ⟨rfl, hb1⟩
  have HB1 := Lib.hid hb1
  clear hb1
  go_wp2_with fail
  refine (ref_great A _ _ (H1.out.below HB1.out)).mono ?_
  rintro e2 w2 ⟨rfl, rfl⟩
  by_cases hA : 60 < A.length
  · have d1 : decide (60 < (A.length : Int)) = true := by simp; omega
    go_wp2
    go_ret
    exact ⟨rfl, HB1.out⟩
  have d1 : decide (60 < (A.length : Int)) = false := by simp; omega
  have sA := goodT_size A
  obtain ⟨S1, S2, S3, hck⟩ := ck_is (good_check A (by omega)) (by omega)
  have HK := Lib.hid hck
  clear hck
  go_wp2_with fail
  refine (law_New w w1 HB1.out 1000 (by decide) (by decide)).mono ?_
  rintro e3 w3 ⟨rfl, D3, l3, -⟩
  have HL3 := Lib.hid (show Law8 w w1.heap.size ck0 D3 w3 from l3)
  clear l3
  dsimp only
  generalize w1.heap.size = p1 at *
  go_wp2_with fail
  refine (law_NewG w w3 HL3.out.bel 1000 (by decide) (by decide)).mono ?_
  rintro e4 w4 ⟨rfl, D4, l4, hb4, hf4⟩
  have l4' : Law8 w w3.heap.size ck0 D4 w4 := l4
  have htw : TwoAt w p1 ck0 D3 w3.heap.size ck0 D4 w4 := ⟨(HL3.out.below hb4).1, l4', fun x h1 h2 => (hf4 x (HL3.out.dl x h1)).1 h2⟩
  have HT4 := Lib.hid htw
  clear l4 l4' hb4 hf4 htw HL3
  generalize w3.heap.size = p2 at *
  dsimp only
  go_wp2_with fail
  refine (ref_good A _ _ (by omega) (H1.out.below HT4.out.l1.bel)).mono ?_
  rintro e5 w5 ⟨v5, rfl, hi5, hb5⟩
  obtain ⟨q5, k5, rfl⟩ := hi5.form
  have hn := (HT4.out.l1.below hb5).2.2
  have HT5 := Lib.hid (HT4.out.below hb5)
  have HI5 := Lib.hid (hi5.low.imp (P' := fun b => ¬ D3 b) (fun b hb => by rcases hb with ⟨hb | hb, hb2⟩; exact hb.elim; exact (hn b hb hb2).1) fun _ _ _ => rfl)
  clear hi5 hb5 hn HT4
  go_wp2_with fail
  have hput := law_Put HT5.out.l1 ck0_inv HI5.out (fun b hb => hb) HK.out.m1 (by omega)
  rw [HK.out.e1] at hput
  rw [show ((ck0.cells.length : Nat) : Int) = ((0 : Nat) : Int) from rfl] at hput
  have HPUT := Lib.hid hput
  clear hput
  refine HPUT.out.mono ?_
  rintro e6 w6 ⟨rfl, D6, l6, s6⟩
  have HT6 := Lib.hid (HT5.out.step (X := fun _ => False) l6 s6.size (fun b hb _ => s6.blk b hb) fun b _ e => e)
  clear l6 s6 HPUT HT5 HI5
  have k1 := cp_Copy HT6.out HK.out.i1 ck0_inv 0 HK.out.x1 HK.out.g1 HK.out.m2 HK.out.z1
  rw [HK.out.e2, show ((ck0.cells.length : Nat) : Int) = ((0 : Nat) : Int) from rfl] at k1
  have K1 := Lib.hid k1
  clear k1
  dsimp only
  go_wp2_with fail
  refine K1.out.mono ?_
  rintro e7 w7 ⟨rfl, D7, t7, -, -⟩
  have k2 := cp_Copy t7.symm HK.out.i2 HK.out.i1 0 HK.out.x2 HK.out.g2 HK.out.m3 HK.out.z2
  rw [HK.out.e3] at k2
  have K2 := Lib.hid k2
  clear k2 t7 K1 HT6
  dsimp only
  go_wp2_with fail
  refine K2.out.mono ?_
  rintro e8 w8 ⟨rfl, D8, t8, -, -⟩
  have HT8 := Lib.hid t8.symm
  clear t8 K2
  obtain ⟨c, hc⟩ : ∃ c, c = S1.cells.length := ⟨_, rfl⟩
  have k3 := cp_Alike HT8.out.l1 HK.out.i3 0 S1.cells.length HK.out.x3 HK.out.y3 HK.out.g3 HK.out.h3 (by have := HK.out.z3; omega) (by have := HK.out.w3; omega)
  rw [HK.out.al] at k3
  have K3 := Lib.hid k3
  clear k3
  dsimp only
  go_wp2_with fail
  refine K3.out.mono ?_
  rintro e9 w9 ⟨rfl, l9, s9⟩
  have HT9 := Lib.hid (HT8.out.step (X := fun _ => False) l9 s9.size (fun b hb _ => s9.blk b hb) fun b _ e => e)
  clear l9 s9 K3 HT8
  have k4 := law_GetE HT9.out.l1 HK.out.i3 0 HK.out.x3
  rw [HK.out.g3] at k4
  have K4 := Lib.hid k4
  clear k4
  dsimp only
  go_wp2_with fail
  refine K4.out.mono ?_
  rintro e10 w10 ⟨q10, c10, he10, l10, s10, hi10⟩
  obtain ⟨X1, hX1⟩ : ∃ X1, X1 = getT S3 0 := ⟨_, rfl⟩
  have HX1 := Lib.hid hX1
  rw [← hX1] at he10 hi10
  clear hX1
  obtain rfl : e10 = .returned (.tuple #[.agg #[.int .i64 X1.k, .int .i64 X1.n, .string X1.s, .slice q10 X1.args.length c10], .int .i64 0]) := he10
  have hbA := below_new w10 (.cells #[.int .i64 X1.k, .int .i64 X1.n, .string X1.s, .slice q10 X1.args.length c10] 33 (0, 0))
  have hrA := heap_alloc_new w10 (.cells #[.int .i64 X1.k, .int .i64 X1.n, .string X1.s, .slice q10 X1.args.length c10] 33 (0, 0))
  have ht10 := HT9.out.step (X := fun _ => False) l10 s10.size (fun b hb _ => s10.blk b hb) fun b _ e => e
  have hd2 := HT9.out.l2.dl
  have hi11 : IsTm (w10.alloc (.cells #[.int .i64 X1.k, .int .i64 X1.n, .string X1.s, .slice q10 X1.args.length c10] 33 (0, 0))) (fun b => ¬ D7 b) (.agg #[.int .i64 X1.k, .int .i64 X1.n, .string X1.s, .slice q10 X1.args.length c10]) X1 :=
    (IsTm.below hi10 hbA).imp (fun b hb e => by have := hd2 b e; have := hb.2; omega) fun _ _ _ => rfl
  have hn10 : ¬ D7 w10.heap.size := fun e => by have := ht10.l2.dl _ e; omega
  have HT11 := Lib.hid (ht10.below hbA)
  have HI11 := Lib.hid hi11
  have HR11 := Lib.hid hrA
  have HN10 := Lib.hid hn10
  clear hbA hrA ht10 hd2 hi11 hi10 l10 s10 K4 HT9 hn10
  have k5 := law_GetE HT11.out.l2 HK.out.i2 0 HK.out.x2
  rw [HK.out.g2] at k5
  have K5 := Lib.hid k5
  clear k5
  dsimp only
  go_wp2_with fail
  generalize w10.alloc (.cells #[.int .i64 X1.k, .int .i64 X1.n, .string X1.s, .slice q10 X1.args.length c10] 33 (0, 0)) = w11 at *
  generalize w10.heap.size = xr at *
  refine K5.out.mono ?_
  rintro e12 w12 ⟨q12, c12, he12, l12, s12, hi12⟩
  obtain ⟨Y1, hY1⟩ : ∃ Y1, Y1 = getT S2 0 := ⟨_, rfl⟩
  have HY1 := Lib.hid hY1
  rw [← hY1] at he12 hi12
  clear hY1
  obtain rfl : e12 = .returned (.tuple #[.agg #[.int .i64 Y1.k, .int .i64 Y1.n, .string Y1.s, .slice q12 Y1.args.length c12], .int .i64 0]) := he12
  have hbA := below_new w12 (.cells #[.int .i64 Y1.k, .int .i64 Y1.n, .string Y1.s, .slice q12 Y1.args.length c12] 33 (0, 0))
  have hrA := heap_alloc_new w12 (.cells #[.int .i64 Y1.k, .int .i64 Y1.n, .string Y1.s, .slice q12 Y1.args.length c12] 33 (0, 0))
  have hxl : xr < w11.heap.size := (Array.getElem?_eq_some_iff.1 HR11.out).1
  have hx12 := (hbA.block xr (by have := s12.size; omega)).trans ((s12.blk xr ⟨HN10.out, hxl⟩).2.trans HR11.out)
  have hi13 := (HI11.out.low.imp (P' := fun b => Free D7 w11 b) (fun b hb => hb) fun _ _ _ => rfl).step s12
  have hi14 := IsTm.below hi13 hbA
  have hi15 := IsTm.below hi12 hbA
  have hb13 := (l12.below hbA).1.bel
  have HR13 := Lib.hid hrA
  have HX13 := Lib.hid hx12
  have HI13 := Lib.hid hi14
  have HJ13 := Lib.hid hi15
  have HB13 := Lib.hid hb13
  have HS := Lib.hid HK.out.sa
  have hz1 := HK.out.z1
  have hzx := HK.out.z3
  have hzy := HK.out.z2
  rw [← HX1.out] at HS hzx
  rw [← HY1.out] at HS hzy
  clear hbA hrA hx12 hi13 hi14 hi15 hb13 hi12 l12 s12 K5 HT11 HI11 HR11 HN10 hxl
  dsimp only
  go_wp2
  generalize w12.alloc (.cells #[.int .i64 Y1.k, .int .i64 Y1.n, .string Y1.s, .slice q12 Y1.args.length c12] 33 (0, 0)) = w13 at *
  generalize w12.heap.size = yr at *
  refine wp_region_rest (by kernel_rfl) ?_
  have hdr := (Below.refl w13.heap.size w13).drew
  have HXW := Lib.hid ((hdr.block xr (Array.getElem?_eq_some_iff.1 HX13.out).1).trans HX13.out)
  have HYW := Lib.hid ((hdr.block yr (Array.getElem?_eq_some_iff.1 HR13.out).1).trans HR13.out)
  have HIW := Lib.hid (HI13.out.below hdr)
  have HJW := Lib.hid (HJ13.out.below hdr)
  have HBW := Lib.hid (HB13.out.trans (hdr.mono HB13.out.size))
  clear hdr HX13 HR13 HI13 HJ13 HB13
  generalize w13.drew = W0 at *
  obtain ⟨x0, x1, x2, x3⟩ := row4 HXW.out
  obtain ⟨y0, y1, y2, y3⟩ := row4 HYW.out
  refine rest_lineL 0 13 [_, _, _, _, _, _, _, _, _, _, _, _, _] rfl (by kernel_rfl) (by decide) (by decide) (by kernel_rfl) ?_
  go_wp2
  refine then_rest ?_
  refine rest_chain 13 17 [(false, [13, 14, 16]), (true, [15])] [(false, [_, _, _]), (true, [_])] rfl (by kernel_rfl) (by kernel_rfl) rfl (by kernel_rfl) (by kernel_rfl) (.inr (by kernel_rfl)) ?_
  refine chain_soft ?_
  intro E hE
  go_wp2
  clear x0 x1 x2 x3 y0 y1 y2 y3
  refine chain_one ?_
  intro E hE
  go_wp2_with (refine (tm_Number X1 _ _ _ (by omega) HIW.out).mono ?_; rintro e2 w2 ⟨v2, rfl, hi2, hb2⟩; have HI2 := Lib.hid hi2; have HB2 := Lib.hid hb2; clear hi2 hb2)
  refine ⟨HB2.out, ?_⟩
  refine chain_nil ?_
  refine rest_lineL 17 21 [_, _, _, _] rfl (by kernel_rfl) (by decide) (by decide) (by kernel_rfl) ?_
  go_wp2_with fail
  refine (tm_Number Y1 _ _ _ (by omega) (HJW.out.below HB2.out)).mono ?_
  rintro e3 w3 ⟨v3, rfl, hi3, hb3⟩
  have HI3 := Lib.hid hi3
  have HB3 := Lib.hid (HB2.out.trans (hb3.mono HB2.out.size))
  have HJ3 := Lib.hid (HI2.out.below hb3)
  clear hi3 hb3 HI2 HB2
  have k6 := ref_same _ (numT X1) (numT Y1) _ _ _ _ _ (Nat.le_refl _) (by rw [numT_size]; omega) HJ3.out HI3.out
  rw [HS.out] at k6
  have K6 := Lib.hid k6
  clear k6 HJ3 HI3
  go_wp2_with fail
  refine K6.out.mono ?_
  rintro e4 w4 ⟨rfl, hb4⟩
  have HF := Lib.hid (HBW.out.trans ((HB3.out.trans (hb4.mono HB3.out.size)).mono HBW.out.size))
  clear hb4 HB3 HBW K6
  go_wp2
  refine then_rest (rest_end (by decide) ?_)
  go_wp2
  go_ret
  exact ⟨rfl, HF.out⟩
end Go.Proofs.Ytoklbeogmcdgaaa.Tms
