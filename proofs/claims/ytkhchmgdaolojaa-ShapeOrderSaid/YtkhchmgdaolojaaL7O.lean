
/-
  Layer 17: ShapeOrder, walked over the program.
-/
import Derived.Test.YtkhchmgdaolojaaSll
import Derived.Test.YtkhchmgdaolojaaShf
import Derived.Handy
import Derived.LoopN
namespace Go.Proofs.Ytkhchmgdaolojaa.Tms
open Go Go.RowKit Go.Proofs.Ytkhchmgdaolojaa.Reg Go.Proofs.Ytkhchmgdaolojaa.Rws Go.Proofs.Ytkhchmgdaolojaa.Maps Go.Instr
set_option linter.unusedVariables false
set_option linter.unusedSimpArgs false

theorem good_check17 (L : List Pt) (h : L.length ≤ 60) : checkT (goodT L) = 0 := check_zero (good_may L) (by have := goodT_size L; omega)
def CmpRel (n : Int) (W0 : World) (v12 v13 : Value) (wx : World) : Prop := ∃ g q k q' k', v12 = .pointer (some ⟨g, 0, none⟩) ∧ v13 = .int .i64 0 ∧ wx.heap[g]? = some (.cells #[.bool true, .slice q 1 k, .slice q' 1 k', .int .i64 0, .int .i64 0, .string ⟨#[]⟩, .slice none 0 0] 71 (0, 0)) ∧ IsSl wx AnyB (.slice q' 1 k') [atomT (ordS n)] ∧ Below W0.heap.size W0 wx
theorem CmpRel.lift {n : Int} {W0 W1 wx : World} {v12 v13 : Value} (hb : Below W0.heap.size W0 W1) (h : CmpRel n W1 v12 v13 wx) : CmpRel n W0 v12 v13 wx := let ⟨g, q, k, q', k', h1, h2, h3, h4, h5⟩ := h; ⟨g, q, k, q', k', h1, h2, h3, h4, hb.trans (h5.mono hb.size)⟩
theorem cmp_rel {n : Int} {W0 W : World} {g : Nat} {q q' : Option Addr} {k k' : Nat} {cs : Array Value} (hr : W.heap[g]? = some (.cells cs 71 (0, 0))) (hb : Below W0.heap.size W0 W) (hg : W0.heap.size ≤ g) (hs : IsSl W (fun b => b ≠ g) (.slice q' 1 k') [atomT (ordS n)]) :
    CmpRel n W0 (.pointer (some ⟨g, 0, none⟩)) (.int .i64 0) (W.setRow g #[.bool true, .slice q 1 k, .slice q' 1 k', .int .i64 0, .int .i64 0, .string ⟨#[]⟩, .slice none 0 0]) := by
  exact ⟨g, q, k, _, k', rfl, rfl, setRow_heap W g _ _ _ _ hr, hs.imp (fun _ _ => trivial) fun b hb _ => setRow_other _ _ _ _ hb, below_row hb hg⟩
set_option maxRecDepth 100000 in
set_option maxHeartbeats 16000000 in
theorem law_order0 (L M : List Pt) (v1 v2 : Value) (w : World) (h1 : PtSl w v1 L) (h2 : PtSl w v2 M) (g1 : L.length ≤ 60) (g2 : M.length ≤ 60) : Calls Try.prog 6 #[v1, v2] w (Says true w) := by
  obtain ⟨a1, c1, rfl, hc1, hm1⟩ := h1.form
  obtain ⟨a2, c2, rfl, hc2, hm2⟩ := h2.form
  have H1 := Lib.hid h1
  have H2 := Lib.hid h2
  have HCX := Lib.hid (good_check17 L g1)
  have HCY := Lib.hid (good_check17 M g2)
  clear h1 h2
  have d1 : decide (60 < (L.length : Int)) = false := by simp; omega
  have d2 : decide (60 < (M.length : Int)) = false := by simp; omega
  have hsx : (goodT L).size ≤ 1000000000 := by have := goodT_size L; omega
  have hsy : (goodT M).size ≤ 1000000000 := by have := goodT_size M; omega
  have hsx8 : (goodT L).size ≤ 100000000 := by have := goodT_size L; omega
  have hsy8 : (goodT M).size ≤ 100000000 := by have := goodT_size M; omega
  go_enter Try.func6, Try.ntmps6
  go_wp2_with fail
  refine (l17_alive _).mono ?_
  rintro e1 w1 ⟨rfl, hb1⟩
  have HB := Lib.hid hb1
  clear hb1
  go_wp2_with fail
  refine (ref_great L _ _ (H1.out.below HB.out)).mono ?_
  rintro e2 w2 ⟨rfl, rfl⟩
  go_wp2_with fail
  refine (ref_great M _ _ (H2.out.below HB.out)).mono ?_
  rintro e2 w2 ⟨rfl, rfl⟩
  go_wp2_with fail
  refine (ref_good L _ _ (by omega) (H1.out.below HB.out)).mono ?_
  rintro e3 w3 ⟨v3, rfl, hi3, hb3⟩
  obtain ⟨q1, k1, rfl⟩ := hi3.form
  have HX3 := Lib.hid hi3.any
  have HB3 := Lib.hid (HB.out.trans (hb3.mono HB.out.size))
  clear hi3 hb3 HB H1
  go_wp2_with fail
  refine (ref_good M _ _ (by omega) (H2.out.below HB3.out)).mono ?_
  rintro e4 w4 ⟨v4, rfl, hi4, hb4⟩
  obtain ⟨q2, k2, rfl⟩ := hi4.form
  have HX4 := Lib.hid (HX3.out.below hb4)
  have HY4 := Lib.hid hi4.any
  have HB4 := Lib.hid (HB3.out.trans (hb4.mono HB3.out.size))
  clear hi4 hb4 HB3 H2 HX3
  generalize goodT L = X at *
  generalize goodT M = Y at *
  obtain ⟨n, hn⟩ : ∃ n, n = cmpT X Y := ⟨_, rfl⟩
  obtain ⟨b0, hb0⟩ : ∃ b, b = (fun n : Int => decide (n < 0)) n := ⟨_, rfl⟩
  have HV0 := Lib.hid hb0
  clear hb0
  obtain ⟨b1, hb1⟩ : ∃ b, b = (fun n : Int => n == 0) n := ⟨_, rfl⟩
  have HV1 := Lib.hid hb1
  clear hb1
  obtain ⟨b2, hb2⟩ : ∃ b, b = (fun n : Int => decide (0 < n)) n := ⟨_, rfl⟩
  have HV2 := Lib.hid hb2
  clear hb2
  obtain ⟨b3, hb3⟩ : ∃ b, b = (fun n : Int => decide (n ≤ 0)) n := ⟨_, rfl⟩
  have HV3 := Lib.hid hb3
  clear hb3
  obtain ⟨b4, hb4⟩ : ∃ b, b = (fun n : Int => decide (0 ≤ n)) n := ⟨_, rfl⟩
  have HV4 := Lib.hid hb4
  clear hb4
  obtain ⟨b5, hb5⟩ : ∃ b, b = (fun n : Int => n != 0) n := ⟨_, rfl⟩
  have HV5 := Lib.hid hb5
  clear hb5
  have HN := Lib.hid hn
  clear hn
  have hk := three w4 (.cells #[.int .i64 X.k, .int .i64 X.n, .string X.s, .slice q1 X.args.length k1] 49 (0, 0)) (.cells #[.int .i64 Y.k, .int .i64 Y.n, .string Y.s, .slice q2 Y.args.length k2] 49 (0, 0)) (.cells #[.bool false, .bool false, .bool false, .bool false, .bool false, .bool false] 68 (0, 0))
  have HK := Lib.hid hk
  clear hk
  go_upto_region 7 with fail
  generalize (((w4.alloc (.cells #[.int .i64 X.k, .int .i64 X.n, .string X.s, .slice q1 X.args.length k1] 49 (0, 0))).alloc (.cells #[.int .i64 Y.k, .int .i64 Y.n, .string Y.s, .slice q2 Y.args.length k2] 49 (0, 0))).alloc (.cells #[.bool false, .bool false, .bool false, .bool false, .bool false, .bool false] 68 (0, 0))) = wm0 at *
  have HRX0 := Lib.hid HK.out.1
  have HRY0 := Lib.hid HK.out.2.1
  have HI0 := Lib.hid HK.out.2.2.1
  have HX0 := Lib.hid ((HX4.out.lt.imp (P' := fun b => b < w4.heap.size) (fun b h => h.2) (fun _ _ _ => rfl)).below HK.out.2.2.2)
  have HY0 := Lib.hid ((HY4.out.lt.imp (P' := fun b => b < w4.heap.size) (fun b h => h.2) (fun _ _ _ => rfl)).below HK.out.2.2.2)
  have HB0 := Lib.hid (HB4.out.trans (HK.out.2.2.2.mono HB4.out.size))
  have hz4 := HB4.out.size
  clear HK HX4 HY4 HB4
  go_wp2
  refine wp_loop_rounds 7 ?_
  rw [rounds_succ]
  obtain ⟨x0, x1, x2, x3⟩ := row4 HRX0.out
  obtain ⟨y0, y1, y2, y3⟩ := row4 HRY0.out
  have hix : ∀ W : World, (Instr.index 69 (.agg #[.string ⟨#[64, 60]⟩, .string ⟨#[61, 61]⟩, .string ⟨#[64, 62]⟩, .string ⟨#[64, 61, 60]⟩, .string ⟨#[64, 62, 61]⟩, .string ⟨#[92, 61, 61]⟩]) (.int .i64 0)).run Try.prog W = .ok (.string ⟨#[64, 60]⟩) W := fun W => by kernel_rfl
  go_wp2_with fail
  have hal := (Below.refl wm0.heap.size wm0).alloc (Nat.le_refl _) (.cells #[.int .i64 X.k, .int .i64 X.n, .string X.s, .slice q1 X.args.length k1, .int .i64 Y.k, .int .i64 Y.n, .string Y.s, .slice q2 Y.args.length k2] 49 (0, 0))
  have hrw := row2 (w := wm0) HX0.out.any HY0.out.any
  have hdo := sh_Do_o2 .o2 X Y AnyB _ _ _ hrw hsx HCX.out hsy HCY.out
  rw [← HN.out] at hdo
  replace hdo := hdo.mono (fun _ _ h => h)
  rw [show (fun n : Int => decide (n < 0)) n = b0 from HV0.out.symm] at hdo
  refine hdo.mono ?_
  rintro e u0 ⟨rfl, hbu⟩
  have hbx := hal.trans (hbu.mono hal.size)
  have hby := hbx.trans (((Below.refl u0.heap.size u0).alloc (Nat.le_refl _) (.cells #[.bool b0, .slice none 0 0, .slice none 0 0, .int .i64 0, .int .i64 0, .string ⟨#[]⟩, .slice none 0 0] 71 (0, 0))).mono hbx.size)
  have hrd := heap_alloc_new u0 (.cells #[.bool b0, .slice none 0 0, .slice none 0 0, .int .i64 0, .int .i64 0, .string ⟨#[]⟩, .slice none 0 0] 71 (0, 0))
  have HRXX := Lib.hid (row_on HRX0.out hby)
  have HRYY := Lib.hid (row_on HRY0.out hby)
  have HII := Lib.hid (row_on HI0.out hby)
  have HXX := Lib.hid (HX0.out.below hby)
  have HYY := Lib.hid (HY0.out.below hby)
  have HBB := Lib.hid (HB0.out.trans (hby.mono HB0.out.size))
  have HRD := Lib.hid hrd
  clear x0 x1 x2 x3 y0 y1 y2 y3 hal hrw hdo hbu hbx hby hrd hix HRX0 HRY0 HI0 HX0 HY0 HB0
  simp only [didB]
  go_upto_region 11 with fail
  generalize hUU : u0.alloc (.cells #[.bool b0, .slice none 0 0, .slice none 0 0, .int .i64 0, .int .i64 0, .string ⟨#[]⟩, .slice none 0 0] 71 (0, 0)) = U0 at *
  have hz : u0.heap.size < U0.heap.size := (Array.getElem?_eq_some_iff.1 HRD.out).1
  clear hUU
  obtain ⟨z0, z1, z2, z3, z4, z5, z6⟩ := row7 HRD.out
  have i0 := cell_of_row _ _ 0 _ _ _ HII.out
  have i1 := frozen_of_row U0 (w4.heap.size + 2) 0 _ _ HII.out
  go_wp2
  have hoth : ∀ b, b ≠ w4.heap.size + 2 → (U0.setCell ⟨w4.heap.size + 2, 0, none⟩ (.bool b0)).heap[b]? = U0.heap[b]? := fun b hb => Below.heap_setCell _ _ _ _ hb
  have HRX1 := Lib.hid ((hoth w4.heap.size (by omega)).trans HRXX.out)
  have HRY1 := Lib.hid ((hoth (w4.heap.size + 1) (by omega)).trans HRYY.out)
  have HI1 := Lib.hid (show (U0.setCell ⟨w4.heap.size + 2, 0, none⟩ (.bool b0)).heap[w4.heap.size + 2]? = some (.cells #[.bool b0, .bool false, .bool false, .bool false, .bool false, .bool false] 68 (0, 0)) from heap_setCell_same U0 (w4.heap.size + 2) 0 _ _ (.bool b0) HII.out)
  have HX1 := Lib.hid (HXX.out.imp (w' := U0.setCell ⟨w4.heap.size + 2, 0, none⟩ (.bool b0)) (P' := fun b => b < w4.heap.size) (fun _ h => h) fun b hb hlt => hoth b (by omega))
  have HY1 := Lib.hid (HYY.out.imp (w' := U0.setCell ⟨w4.heap.size + 2, 0, none⟩ (.bool b0)) (P' := fun b => b < w4.heap.size) (fun _ h => h) fun b hb hlt => hoth b (by omega))
  have HB1 := Lib.hid (show Below w.heap.size w (U0.setCell ⟨w4.heap.size + 2, 0, none⟩ (.bool b0)) from HBB.out.setCell (by show w.heap.size ≤ w4.heap.size + 2; omega) _)
  clear hoth z0 z1 z2 z3 z4 z5 z6 i0 i1 hz HRXX HRYY HII HXX HYY HBB HRD
  generalize U0.setCell ⟨w4.heap.size + 2, 0, none⟩ (.bool b0) = wm1 at *
  rw [rounds_succ]
  obtain ⟨x0, x1, x2, x3⟩ := row4 HRX1.out
  obtain ⟨y0, y1, y2, y3⟩ := row4 HRY1.out
  have hix : ∀ W : World, (Instr.index 69 (.agg #[.string ⟨#[64, 60]⟩, .string ⟨#[61, 61]⟩, .string ⟨#[64, 62]⟩, .string ⟨#[64, 61, 60]⟩, .string ⟨#[64, 62, 61]⟩, .string ⟨#[92, 61, 61]⟩]) (.int .i64 1)).run Try.prog W = .ok (.string ⟨#[61, 61]⟩) W := fun W => by kernel_rfl
  go_wp2_with fail
  have hal := (Below.refl wm1.heap.size wm1).alloc (Nat.le_refl _) (.cells #[.int .i64 X.k, .int .i64 X.n, .string X.s, .slice q1 X.args.length k1, .int .i64 Y.k, .int .i64 Y.n, .string Y.s, .slice q2 Y.args.length k2] 49 (0, 0))
  have hrw := row2 (w := wm1) HX1.out.any HY1.out.any
  have hdo := sh_Do_o0 .o0 X Y AnyB _ _ _ hrw hsx HCX.out hsy HCY.out
  rw [← HN.out] at hdo
  replace hdo := hdo.mono (fun _ _ h => h)
  rw [show (fun n : Int => n == 0) n = b1 from HV1.out.symm] at hdo
  refine hdo.mono ?_
  rintro e u1 ⟨rfl, hbu⟩
  have hbx := hal.trans (hbu.mono hal.size)
  have hby := hbx.trans (((Below.refl u1.heap.size u1).alloc (Nat.le_refl _) (.cells #[.bool b1, .slice none 0 0, .slice none 0 0, .int .i64 0, .int .i64 0, .string ⟨#[]⟩, .slice none 0 0] 71 (0, 0))).mono hbx.size)
  have hrd := heap_alloc_new u1 (.cells #[.bool b1, .slice none 0 0, .slice none 0 0, .int .i64 0, .int .i64 0, .string ⟨#[]⟩, .slice none 0 0] 71 (0, 0))
  have HRXX := Lib.hid (row_on HRX1.out hby)
  have HRYY := Lib.hid (row_on HRY1.out hby)
  have HII := Lib.hid (row_on HI1.out hby)
  have HXX := Lib.hid (HX1.out.below hby)
  have HYY := Lib.hid (HY1.out.below hby)
  have HBB := Lib.hid (HB1.out.trans (hby.mono HB1.out.size))
  have HRD := Lib.hid hrd
  clear x0 x1 x2 x3 y0 y1 y2 y3 hal hrw hdo hbu hbx hby hrd hix HRX1 HRY1 HI1 HX1 HY1 HB1
  simp only [didB]
  go_upto_region 11 with fail
  generalize hUU : u1.alloc (.cells #[.bool b1, .slice none 0 0, .slice none 0 0, .int .i64 0, .int .i64 0, .string ⟨#[]⟩, .slice none 0 0] 71 (0, 0)) = U1 at *
  have hz : u1.heap.size < U1.heap.size := (Array.getElem?_eq_some_iff.1 HRD.out).1
  clear hUU
  obtain ⟨z0, z1, z2, z3, z4, z5, z6⟩ := row7 HRD.out
  have i0 := cell_of_row _ _ 1 _ _ _ HII.out
  have i1 := frozen_of_row U1 (w4.heap.size + 2) 1 _ _ HII.out
  go_wp2
  have hoth : ∀ b, b ≠ w4.heap.size + 2 → (U1.setCell ⟨w4.heap.size + 2, 1, none⟩ (.bool b1)).heap[b]? = U1.heap[b]? := fun b hb => Below.heap_setCell _ _ _ _ hb
  have HRX2 := Lib.hid ((hoth w4.heap.size (by omega)).trans HRXX.out)
  have HRY2 := Lib.hid ((hoth (w4.heap.size + 1) (by omega)).trans HRYY.out)
  have HI2 := Lib.hid (show (U1.setCell ⟨w4.heap.size + 2, 1, none⟩ (.bool b1)).heap[w4.heap.size + 2]? = some (.cells #[.bool b0, .bool b1, .bool false, .bool false, .bool false, .bool false] 68 (0, 0)) from heap_setCell_same U1 (w4.heap.size + 2) 1 _ _ (.bool b1) HII.out)
  have HX2 := Lib.hid (HXX.out.imp (w' := U1.setCell ⟨w4.heap.size + 2, 1, none⟩ (.bool b1)) (P' := fun b => b < w4.heap.size) (fun _ h => h) fun b hb hlt => hoth b (by omega))
  have HY2 := Lib.hid (HYY.out.imp (w' := U1.setCell ⟨w4.heap.size + 2, 1, none⟩ (.bool b1)) (P' := fun b => b < w4.heap.size) (fun _ h => h) fun b hb hlt => hoth b (by omega))
  have HB2 := Lib.hid (show Below w.heap.size w (U1.setCell ⟨w4.heap.size + 2, 1, none⟩ (.bool b1)) from HBB.out.setCell (by show w.heap.size ≤ w4.heap.size + 2; omega) _)
  clear hoth z0 z1 z2 z3 z4 z5 z6 i0 i1 hz HRXX HRYY HII HXX HYY HBB HRD
  generalize U1.setCell ⟨w4.heap.size + 2, 1, none⟩ (.bool b1) = wm2 at *
  rw [rounds_succ]
  obtain ⟨x0, x1, x2, x3⟩ := row4 HRX2.out
  obtain ⟨y0, y1, y2, y3⟩ := row4 HRY2.out
  have hix : ∀ W : World, (Instr.index 69 (.agg #[.string ⟨#[64, 60]⟩, .string ⟨#[61, 61]⟩, .string ⟨#[64, 62]⟩, .string ⟨#[64, 61, 60]⟩, .string ⟨#[64, 62, 61]⟩, .string ⟨#[92, 61, 61]⟩]) (.int .i64 2)).run Try.prog W = .ok (.string ⟨#[64, 62]⟩) W := fun W => by kernel_rfl
  go_wp2_with fail
  have hal := (Below.refl wm2.heap.size wm2).alloc (Nat.le_refl _) (.cells #[.int .i64 X.k, .int .i64 X.n, .string X.s, .slice q1 X.args.length k1, .int .i64 Y.k, .int .i64 Y.n, .string Y.s, .slice q2 Y.args.length k2] 49 (0, 0))
  have hrw := row2 (w := wm2) HX2.out.any HY2.out.any
  have hdo := sh_Do_o3 .o3 X Y AnyB _ _ _ hrw hsx HCX.out hsy HCY.out
  rw [← HN.out] at hdo
  replace hdo := hdo.mono (fun _ _ h => h)
  rw [show (fun n : Int => decide (0 < n)) n = b2 from HV2.out.symm] at hdo
  refine hdo.mono ?_
  rintro e u2 ⟨rfl, hbu⟩
  have hbx := hal.trans (hbu.mono hal.size)
  have hby := hbx.trans (((Below.refl u2.heap.size u2).alloc (Nat.le_refl _) (.cells #[.bool b2, .slice none 0 0, .slice none 0 0, .int .i64 0, .int .i64 0, .string ⟨#[]⟩, .slice none 0 0] 71 (0, 0))).mono hbx.size)
  have hrd := heap_alloc_new u2 (.cells #[.bool b2, .slice none 0 0, .slice none 0 0, .int .i64 0, .int .i64 0, .string ⟨#[]⟩, .slice none 0 0] 71 (0, 0))
  have HRXX := Lib.hid (row_on HRX2.out hby)
  have HRYY := Lib.hid (row_on HRY2.out hby)
  have HII := Lib.hid (row_on HI2.out hby)
  have HXX := Lib.hid (HX2.out.below hby)
  have HYY := Lib.hid (HY2.out.below hby)
  have HBB := Lib.hid (HB2.out.trans (hby.mono HB2.out.size))
  have HRD := Lib.hid hrd
  clear x0 x1 x2 x3 y0 y1 y2 y3 hal hrw hdo hbu hbx hby hrd hix HRX2 HRY2 HI2 HX2 HY2 HB2
  simp only [didB]
  go_upto_region 11 with fail
  generalize hUU : u2.alloc (.cells #[.bool b2, .slice none 0 0, .slice none 0 0, .int .i64 0, .int .i64 0, .string ⟨#[]⟩, .slice none 0 0] 71 (0, 0)) = U2 at *
  have hz : u2.heap.size < U2.heap.size := (Array.getElem?_eq_some_iff.1 HRD.out).1
  clear hUU
  obtain ⟨z0, z1, z2, z3, z4, z5, z6⟩ := row7 HRD.out
  have i0 := cell_of_row _ _ 2 _ _ _ HII.out
  have i1 := frozen_of_row U2 (w4.heap.size + 2) 2 _ _ HII.out
  go_wp2
  have hoth : ∀ b, b ≠ w4.heap.size + 2 → (U2.setCell ⟨w4.heap.size + 2, 2, none⟩ (.bool b2)).heap[b]? = U2.heap[b]? := fun b hb => Below.heap_setCell _ _ _ _ hb
  have HRX3 := Lib.hid ((hoth w4.heap.size (by omega)).trans HRXX.out)
  have HRY3 := Lib.hid ((hoth (w4.heap.size + 1) (by omega)).trans HRYY.out)
  have HI3 := Lib.hid (show (U2.setCell ⟨w4.heap.size + 2, 2, none⟩ (.bool b2)).heap[w4.heap.size + 2]? = some (.cells #[.bool b0, .bool b1, .bool b2, .bool false, .bool false, .bool false] 68 (0, 0)) from heap_setCell_same U2 (w4.heap.size + 2) 2 _ _ (.bool b2) HII.out)
  have HX3 := Lib.hid (HXX.out.imp (w' := U2.setCell ⟨w4.heap.size + 2, 2, none⟩ (.bool b2)) (P' := fun b => b < w4.heap.size) (fun _ h => h) fun b hb hlt => hoth b (by omega))
  have HY3 := Lib.hid (HYY.out.imp (w' := U2.setCell ⟨w4.heap.size + 2, 2, none⟩ (.bool b2)) (P' := fun b => b < w4.heap.size) (fun _ h => h) fun b hb hlt => hoth b (by omega))
  have HB3 := Lib.hid (show Below w.heap.size w (U2.setCell ⟨w4.heap.size + 2, 2, none⟩ (.bool b2)) from HBB.out.setCell (by show w.heap.size ≤ w4.heap.size + 2; omega) _)
  clear hoth z0 z1 z2 z3 z4 z5 z6 i0 i1 hz HRXX HRYY HII HXX HYY HBB HRD
  generalize U2.setCell ⟨w4.heap.size + 2, 2, none⟩ (.bool b2) = wm3 at *
  rw [rounds_succ]
  obtain ⟨x0, x1, x2, x3⟩ := row4 HRX3.out
  obtain ⟨y0, y1, y2, y3⟩ := row4 HRY3.out
  have hix : ∀ W : World, (Instr.index 69 (.agg #[.string ⟨#[64, 60]⟩, .string ⟨#[61, 61]⟩, .string ⟨#[64, 62]⟩, .string ⟨#[64, 61, 60]⟩, .string ⟨#[64, 62, 61]⟩, .string ⟨#[92, 61, 61]⟩]) (.int .i64 3)).run Try.prog W = .ok (.string ⟨#[64, 61, 60]⟩) W := fun W => by kernel_rfl
  go_wp2_with fail
  have hal := (Below.refl wm3.heap.size wm3).alloc (Nat.le_refl _) (.cells #[.int .i64 X.k, .int .i64 X.n, .string X.s, .slice q1 X.args.length k1, .int .i64 Y.k, .int .i64 Y.n, .string Y.s, .slice q2 Y.args.length k2] 49 (0, 0))
  have hrw := row2 (w := wm3) HX3.out.any HY3.out.any
  have hdo := sh_Do_o4 .o4 X Y AnyB _ _ _ hrw hsx HCX.out hsy HCY.out
  rw [← HN.out] at hdo
  replace hdo := hdo.mono (fun _ _ h => h)
  rw [show (fun n : Int => decide (n ≤ 0)) n = b3 from HV3.out.symm] at hdo
  refine hdo.mono ?_
  rintro e u3 ⟨rfl, hbu⟩
  have hbx := hal.trans (hbu.mono hal.size)
  have hby := hbx.trans (((Below.refl u3.heap.size u3).alloc (Nat.le_refl _) (.cells #[.bool b3, .slice none 0 0, .slice none 0 0, .int .i64 0, .int .i64 0, .string ⟨#[]⟩, .slice none 0 0] 71 (0, 0))).mono hbx.size)
  have hrd := heap_alloc_new u3 (.cells #[.bool b3, .slice none 0 0, .slice none 0 0, .int .i64 0, .int .i64 0, .string ⟨#[]⟩, .slice none 0 0] 71 (0, 0))
  have HRXX := Lib.hid (row_on HRX3.out hby)
  have HRYY := Lib.hid (row_on HRY3.out hby)
  have HII := Lib.hid (row_on HI3.out hby)
  have HXX := Lib.hid (HX3.out.below hby)
  have HYY := Lib.hid (HY3.out.below hby)
  have HBB := Lib.hid (HB3.out.trans (hby.mono HB3.out.size))
  have HRD := Lib.hid hrd
  clear x0 x1 x2 x3 y0 y1 y2 y3 hal hrw hdo hbu hbx hby hrd hix HRX3 HRY3 HI3 HX3 HY3 HB3
  simp only [didB]
  go_upto_region 11 with fail
  generalize hUU : u3.alloc (.cells #[.bool b3, .slice none 0 0, .slice none 0 0, .int .i64 0, .int .i64 0, .string ⟨#[]⟩, .slice none 0 0] 71 (0, 0)) = U3 at *
  have hz : u3.heap.size < U3.heap.size := (Array.getElem?_eq_some_iff.1 HRD.out).1
  clear hUU
  obtain ⟨z0, z1, z2, z3, z4, z5, z6⟩ := row7 HRD.out
  have i0 := cell_of_row _ _ 3 _ _ _ HII.out
  have i1 := frozen_of_row U3 (w4.heap.size + 2) 3 _ _ HII.out
  go_wp2
  have hoth : ∀ b, b ≠ w4.heap.size + 2 → (U3.setCell ⟨w4.heap.size + 2, 3, none⟩ (.bool b3)).heap[b]? = U3.heap[b]? := fun b hb => Below.heap_setCell _ _ _ _ hb
  have HRX4 := Lib.hid ((hoth w4.heap.size (by omega)).trans HRXX.out)
  have HRY4 := Lib.hid ((hoth (w4.heap.size + 1) (by omega)).trans HRYY.out)
  have HI4 := Lib.hid (show (U3.setCell ⟨w4.heap.size + 2, 3, none⟩ (.bool b3)).heap[w4.heap.size + 2]? = some (.cells #[.bool b0, .bool b1, .bool b2, .bool b3, .bool false, .bool false] 68 (0, 0)) from heap_setCell_same U3 (w4.heap.size + 2) 3 _ _ (.bool b3) HII.out)
  have HX4 := Lib.hid (HXX.out.imp (w' := U3.setCell ⟨w4.heap.size + 2, 3, none⟩ (.bool b3)) (P' := fun b => b < w4.heap.size) (fun _ h => h) fun b hb hlt => hoth b (by omega))
  have HY4 := Lib.hid (HYY.out.imp (w' := U3.setCell ⟨w4.heap.size + 2, 3, none⟩ (.bool b3)) (P' := fun b => b < w4.heap.size) (fun _ h => h) fun b hb hlt => hoth b (by omega))
  have HB4 := Lib.hid (show Below w.heap.size w (U3.setCell ⟨w4.heap.size + 2, 3, none⟩ (.bool b3)) from HBB.out.setCell (by show w.heap.size ≤ w4.heap.size + 2; omega) _)
  clear hoth z0 z1 z2 z3 z4 z5 z6 i0 i1 hz HRXX HRYY HII HXX HYY HBB HRD
  generalize U3.setCell ⟨w4.heap.size + 2, 3, none⟩ (.bool b3) = wm4 at *
  rw [rounds_succ]
  obtain ⟨x0, x1, x2, x3⟩ := row4 HRX4.out
  obtain ⟨y0, y1, y2, y3⟩ := row4 HRY4.out
  have hix : ∀ W : World, (Instr.index 69 (.agg #[.string ⟨#[64, 60]⟩, .string ⟨#[61, 61]⟩, .string ⟨#[64, 62]⟩, .string ⟨#[64, 61, 60]⟩, .string ⟨#[64, 62, 61]⟩, .string ⟨#[92, 61, 61]⟩]) (.int .i64 4)).run Try.prog W = .ok (.string ⟨#[64, 62, 61]⟩) W := fun W => by kernel_rfl
  go_wp2_with fail
  have hal := (Below.refl wm4.heap.size wm4).alloc (Nat.le_refl _) (.cells #[.int .i64 X.k, .int .i64 X.n, .string X.s, .slice q1 X.args.length k1, .int .i64 Y.k, .int .i64 Y.n, .string Y.s, .slice q2 Y.args.length k2] 49 (0, 0))
  have hrw := row2 (w := wm4) HX4.out.any HY4.out.any
  have hdo := sh_Do_o5 .o5 X Y AnyB _ _ _ hrw hsx HCX.out hsy HCY.out
  rw [← HN.out] at hdo
  replace hdo := hdo.mono (fun _ _ h => h)
  rw [show (fun n : Int => decide (0 ≤ n)) n = b4 from HV4.out.symm] at hdo
  refine hdo.mono ?_
  rintro e u4 ⟨rfl, hbu⟩
  have hbx := hal.trans (hbu.mono hal.size)
  have hby := hbx.trans (((Below.refl u4.heap.size u4).alloc (Nat.le_refl _) (.cells #[.bool b4, .slice none 0 0, .slice none 0 0, .int .i64 0, .int .i64 0, .string ⟨#[]⟩, .slice none 0 0] 71 (0, 0))).mono hbx.size)
  have hrd := heap_alloc_new u4 (.cells #[.bool b4, .slice none 0 0, .slice none 0 0, .int .i64 0, .int .i64 0, .string ⟨#[]⟩, .slice none 0 0] 71 (0, 0))
  have HRXX := Lib.hid (row_on HRX4.out hby)
  have HRYY := Lib.hid (row_on HRY4.out hby)
  have HII := Lib.hid (row_on HI4.out hby)
  have HXX := Lib.hid (HX4.out.below hby)
  have HYY := Lib.hid (HY4.out.below hby)
  have HBB := Lib.hid (HB4.out.trans (hby.mono HB4.out.size))
  have HRD := Lib.hid hrd
  clear x0 x1 x2 x3 y0 y1 y2 y3 hal hrw hdo hbu hbx hby hrd hix HRX4 HRY4 HI4 HX4 HY4 HB4
  simp only [didB]
  go_upto_region 11 with fail
  generalize hUU : u4.alloc (.cells #[.bool b4, .slice none 0 0, .slice none 0 0, .int .i64 0, .int .i64 0, .string ⟨#[]⟩, .slice none 0 0] 71 (0, 0)) = U4 at *
  have hz : u4.heap.size < U4.heap.size := (Array.getElem?_eq_some_iff.1 HRD.out).1
  clear hUU
  obtain ⟨z0, z1, z2, z3, z4, z5, z6⟩ := row7 HRD.out
  have i0 := cell_of_row _ _ 4 _ _ _ HII.out
  have i1 := frozen_of_row U4 (w4.heap.size + 2) 4 _ _ HII.out
  go_wp2
  have hoth : ∀ b, b ≠ w4.heap.size + 2 → (U4.setCell ⟨w4.heap.size + 2, 4, none⟩ (.bool b4)).heap[b]? = U4.heap[b]? := fun b hb => Below.heap_setCell _ _ _ _ hb
  have HRX5 := Lib.hid ((hoth w4.heap.size (by omega)).trans HRXX.out)
  have HRY5 := Lib.hid ((hoth (w4.heap.size + 1) (by omega)).trans HRYY.out)
  have HI5 := Lib.hid (show (U4.setCell ⟨w4.heap.size + 2, 4, none⟩ (.bool b4)).heap[w4.heap.size + 2]? = some (.cells #[.bool b0, .bool b1, .bool b2, .bool b3, .bool b4, .bool false] 68 (0, 0)) from heap_setCell_same U4 (w4.heap.size + 2) 4 _ _ (.bool b4) HII.out)
  have HX5 := Lib.hid (HXX.out.imp (w' := U4.setCell ⟨w4.heap.size + 2, 4, none⟩ (.bool b4)) (P' := fun b => b < w4.heap.size) (fun _ h => h) fun b hb hlt => hoth b (by omega))
  have HY5 := Lib.hid (HYY.out.imp (w' := U4.setCell ⟨w4.heap.size + 2, 4, none⟩ (.bool b4)) (P' := fun b => b < w4.heap.size) (fun _ h => h) fun b hb hlt => hoth b (by omega))
  have HB5 := Lib.hid (show Below w.heap.size w (U4.setCell ⟨w4.heap.size + 2, 4, none⟩ (.bool b4)) from HBB.out.setCell (by show w.heap.size ≤ w4.heap.size + 2; omega) _)
  clear hoth z0 z1 z2 z3 z4 z5 z6 i0 i1 hz HRXX HRYY HII HXX HYY HBB HRD
  generalize U4.setCell ⟨w4.heap.size + 2, 4, none⟩ (.bool b4) = wm5 at *
  rw [rounds_succ]
  obtain ⟨x0, x1, x2, x3⟩ := row4 HRX5.out
  obtain ⟨y0, y1, y2, y3⟩ := row4 HRY5.out
  have hix : ∀ W : World, (Instr.index 69 (.agg #[.string ⟨#[64, 60]⟩, .string ⟨#[61, 61]⟩, .string ⟨#[64, 62]⟩, .string ⟨#[64, 61, 60]⟩, .string ⟨#[64, 62, 61]⟩, .string ⟨#[92, 61, 61]⟩]) (.int .i64 5)).run Try.prog W = .ok (.string ⟨#[92, 61, 61]⟩) W := fun W => by kernel_rfl
  go_wp2_with fail
  have hal := (Below.refl wm5.heap.size wm5).alloc (Nat.le_refl _) (.cells #[.int .i64 X.k, .int .i64 X.n, .string X.s, .slice q1 X.args.length k1, .int .i64 Y.k, .int .i64 Y.n, .string Y.s, .slice q2 Y.args.length k2] 49 (0, 0))
  have hrw := row2 (w := wm5) HX5.out.any HY5.out.any
  have hdo := sh_Do_o1 .o1 X Y AnyB _ _ _ hrw hsx HCX.out hsy HCY.out
  rw [← HN.out] at hdo
  replace hdo := hdo.mono (fun _ _ h => h)
  rw [show (fun n : Int => n != 0) n = b5 from HV5.out.symm] at hdo
  refine hdo.mono ?_
  rintro e u5 ⟨rfl, hbu⟩
  have hbx := hal.trans (hbu.mono hal.size)
  have hby := hbx.trans (((Below.refl u5.heap.size u5).alloc (Nat.le_refl _) (.cells #[.bool b5, .slice none 0 0, .slice none 0 0, .int .i64 0, .int .i64 0, .string ⟨#[]⟩, .slice none 0 0] 71 (0, 0))).mono hbx.size)
  have hrd := heap_alloc_new u5 (.cells #[.bool b5, .slice none 0 0, .slice none 0 0, .int .i64 0, .int .i64 0, .string ⟨#[]⟩, .slice none 0 0] 71 (0, 0))
  have HRXX := Lib.hid (row_on HRX5.out hby)
  have HRYY := Lib.hid (row_on HRY5.out hby)
  have HII := Lib.hid (row_on HI5.out hby)
  have HXX := Lib.hid (HX5.out.below hby)
  have HYY := Lib.hid (HY5.out.below hby)
  have HBB := Lib.hid (HB5.out.trans (hby.mono HB5.out.size))
  have HRD := Lib.hid hrd
  clear x0 x1 x2 x3 y0 y1 y2 y3 hal hrw hdo hbu hbx hby hrd hix HRX5 HRY5 HI5 HX5 HY5 HB5
  simp only [didB]
  go_upto_region 11 with fail
  generalize hUU : u5.alloc (.cells #[.bool b5, .slice none 0 0, .slice none 0 0, .int .i64 0, .int .i64 0, .string ⟨#[]⟩, .slice none 0 0] 71 (0, 0)) = U5 at *
  have hz : u5.heap.size < U5.heap.size := (Array.getElem?_eq_some_iff.1 HRD.out).1
  clear hUU
  obtain ⟨z0, z1, z2, z3, z4, z5, z6⟩ := row7 HRD.out
  have i0 := cell_of_row _ _ 5 _ _ _ HII.out
  have i1 := frozen_of_row U5 (w4.heap.size + 2) 5 _ _ HII.out
  go_wp2
  have hoth : ∀ b, b ≠ w4.heap.size + 2 → (U5.setCell ⟨w4.heap.size + 2, 5, none⟩ (.bool b5)).heap[b]? = U5.heap[b]? := fun b hb => Below.heap_setCell _ _ _ _ hb
  have HRX6 := Lib.hid ((hoth w4.heap.size (by omega)).trans HRXX.out)
  have HRY6 := Lib.hid ((hoth (w4.heap.size + 1) (by omega)).trans HRYY.out)
  have HI6 := Lib.hid (show (U5.setCell ⟨w4.heap.size + 2, 5, none⟩ (.bool b5)).heap[w4.heap.size + 2]? = some (.cells #[.bool b0, .bool b1, .bool b2, .bool b3, .bool b4, .bool b5] 68 (0, 0)) from heap_setCell_same U5 (w4.heap.size + 2) 5 _ _ (.bool b5) HII.out)
  have HX6 := Lib.hid (HXX.out.imp (w' := U5.setCell ⟨w4.heap.size + 2, 5, none⟩ (.bool b5)) (P' := fun b => b < w4.heap.size) (fun _ h => h) fun b hb hlt => hoth b (by omega))
  have HY6 := Lib.hid (HYY.out.imp (w' := U5.setCell ⟨w4.heap.size + 2, 5, none⟩ (.bool b5)) (P' := fun b => b < w4.heap.size) (fun _ h => h) fun b hb hlt => hoth b (by omega))
  have HB6 := Lib.hid (show Below w.heap.size w (U5.setCell ⟨w4.heap.size + 2, 5, none⟩ (.bool b5)) from HBB.out.setCell (by show w.heap.size ≤ w4.heap.size + 2; omega) _)
  clear hoth z0 z1 z2 z3 z4 z5 z6 i0 i1 hz HRXX HRYY HII HXX HYY HBB HRD
  generalize U5.setCell ⟨w4.heap.size + 2, 5, none⟩ (.bool b5) = wm6 at *
  rw [rounds_succ]
  go_upto_region 15 with fail
  have hcks : ∀ t ∈ [varT 9, X, Y], t.size ≤ 100000000 ∧ checkT t = 0 := by
    intro t ht
    simp only [List.mem_cons, List.not_mem_nil, or_false] at ht
    rcases ht with rfl | rfl | rfl
    · exact ⟨by simp [varT, Tm.size, sizeL], ex17_cv 9 (by decide)⟩
    · exact ⟨hsx8, HCX.out⟩
    · exact ⟨hsy8, HCY.out⟩
  go_cut [12, 13] (fun v12 v13 wx => CmpRel n wm6 v12 v13 wx)
  case first =>
    refine wp_region_rest (by kernel_rfl) ?_
    have hd := (Below.refl wm6.heap.size wm6).drew
    have hrx := row_on HRX6.out hd
    have hry := row_on HRY6.out hd
    have HX7 := Lib.hid (HX6.out.below hd)
    have HY7 := Lib.hid (HY6.out.below hd)
    have HD := Lib.hid hd
    clear hd HRX6 HRY6 HI6 HX6 HY6 HB6
    generalize wm6.drew = wd6 at *
    have lx := (Array.getElem?_eq_some_iff.1 hrx).1
    have ly := (Array.getElem?_eq_some_iff.1 hry).1
    obtain ⟨x0, x1, x2, x3⟩ := row4 hrx
    obtain ⟨y0, y1, y2, y3⟩ := row4 hry
    clear hrx hry
    refine rest_chainP (fun u => Below wd6.heap.size wd6 u) 0 11 (.soft 1 (.soft 2 (.two 0 8 (.two 3 8 (.two 4 8 (.soft 5 (.soft 6 (.soft 7 (.one 8 (.one 9 (.soft 10 .nil)))))) (.one 4 (.soft 5 (.soft 6 (.soft 7 (.one 9 (.soft 10 .nil))))))) (.one 3 (.one 4 (.soft 5 (.soft 6 (.soft 7 (.one 9 (.soft 10 .nil)))))))) (.one 0 (.one 3 (.one 4 (.soft 5 (.soft 6 (.soft 7 (.one 9 (.soft 10 .nil))))))))))) (.soft _ (.soft _ (.two _ _ (.two _ _ (.two _ _ (.soft _ (.soft _ (.soft _ (.one _ (.one _ (.soft _ .nil)))))) (.one _ (.soft _ (.soft _ (.soft _ (.one _ (.soft _ .nil))))))) (.one _ (.one _ (.soft _ (.soft _ (.soft _ (.one _ (.soft _ .nil)))))))) (.one _ (.one _ (.one _ (.soft _ (.soft _ (.soft _ (.one _ (.soft _ .nil))))))))))) ⟨rfl, ⟨rfl, ⟨rfl, rfl, ⟨rfl, rfl, ⟨rfl, rfl, ⟨rfl, ⟨rfl, ⟨rfl, ⟨rfl, ⟨rfl, ⟨rfl, trivial⟩⟩⟩⟩⟩⟩, ⟨rfl, ⟨rfl, ⟨rfl, ⟨rfl, ⟨rfl, ⟨rfl, trivial⟩⟩⟩⟩⟩⟩⟩, ⟨rfl, ⟨rfl, ⟨rfl, ⟨rfl, ⟨rfl, ⟨rfl, ⟨rfl, trivial⟩⟩⟩⟩⟩⟩⟩⟩, ⟨rfl, ⟨rfl, ⟨rfl, ⟨rfl, ⟨rfl, ⟨rfl, ⟨rfl, ⟨rfl, trivial⟩⟩⟩⟩⟩⟩⟩⟩⟩⟩⟩ (by kernel_rfl) (by kernel_rfl) (by kernel_rfl) (by kernel_rfl) (.inl rfl) (Below.refl _ _) ?_
    refine chainP_soft (a1 := ?ma1) (by kernel_rfl) (by kernel_rfl) ?mh1 ?mr1
    case mh1 =>
      intro u hu E hE
      have c0 := (hu.cell (p := ⟨w4.heap.size, 0, none⟩) lx).trans x0
      have c1 := (hu.cell (p := ⟨w4.heap.size, 1, none⟩) lx).trans x1
      have c2 := (hu.cell (p := ⟨w4.heap.size, 2, none⟩) lx).trans x2
      have c3 := (hu.cell (p := ⟨w4.heap.size, 3, none⟩) lx).trans x3
      go_wp2
      rfl
    refine chainP_soft (a1 := ?ma2) (by kernel_rfl) (by kernel_rfl) ?mh2 ?mr2
    case mh2 =>
      intro u hu E hE
      have c0 := (hu.cell (p := ⟨w4.heap.size + 1, 0, none⟩) ly).trans y0
      have c1 := (hu.cell (p := ⟨w4.heap.size + 1, 1, none⟩) ly).trans y1
      have c2 := (hu.cell (p := ⟨w4.heap.size + 1, 2, none⟩) ly).trans y2
      have c3 := (hu.cell (p := ⟨w4.heap.size + 1, 3, none⟩) ly).trans y3
      go_wp2
      rfl
    clear x0 x1 x2 x3 y0 y1 y2 y3 lx ly
    have hb0 := Below.refl wd6.heap.size wd6
    refine chainP_two ?_ ?_
    · intro E hE
      go_wp2_with (refine (l17_v _ _).mono ?_; rintro e x0 ⟨rfl, hbn⟩)
      have hx0 := hb0.trans (hbn.mono hb0.size)
      clear hbn
      refine ⟨hx0, ?_⟩
      refine chainP_two ?_ ?_
      · intro E hE
        go_wp2
        have hrw : IsSl (x0.alloc (.cells #[.int .i64 1, .int .i64 9, .string ⟨#[]⟩, .slice none 0 0, .int .i64 X.k, .int .i64 X.n, .string X.s, .slice q1 X.args.length k1, .int .i64 Y.k, .int .i64 Y.n, .string Y.s, .slice q2 Y.args.length k2] 49 (0, 0))) AnyB (.slice (some ⟨x0.heap.size, 0, none⟩) 3 3) [varT 9, X, Y] := row3 (x := varT 9) (a := none) (c := 0) (var_is _ _ _) (HX7.out.below hx0).any (HY7.out.below hx0).any
        have hbn := (Below.refl x0.heap.size x0).alloc (Nat.le_refl _) (.cells #[.int .i64 1, .int .i64 9, .string ⟨#[]⟩, .slice none 0 0, .int .i64 X.k, .int .i64 X.n, .string X.s, .slice q1 X.args.length k1, .int .i64 Y.k, .int .i64 Y.n, .string Y.s, .slice q2 Y.args.length k2] 49 (0, 0))
        have hx1 := hx0.trans (hbn.mono hx0.size)
        clear hbn
        refine ⟨hx1, ?_⟩
        generalize hG1 : x0.alloc (.cells #[.int .i64 1, .int .i64 9, .string ⟨#[]⟩, .slice none 0 0, .int .i64 X.k, .int .i64 X.n, .string X.s, .slice q1 X.args.length k1, .int .i64 Y.k, .int .i64 Y.n, .string Y.s, .slice q2 Y.args.length k2] 49 (0, 0)) = x1 at *
        clear hG1
        refine chainP_two ?_ ?_
        · intro E hE
          go_wp2_with (refine (sh_Do_compare [varT 9, X, Y] (varT 9) X Y AnyB _ _ _ hrw rfl hcks rfl rfl).mono ?_; rintro e x2 ⟨va, vt, rfl, hic, hsc, hbn⟩)
          obtain ⟨p1, r1, ea⟩ : ∃ q k, va = .slice q 1 k := hic.firsts
          obtain ⟨p2, r2, eb⟩ : ∃ q k, vt = .slice q 1 k := hsc.form
          subst ea eb
          clear hic hrw
          have HSC := Lib.hid (hsc.imp (P' := AnyB) (fun _ _ => trivial) (fun _ _ _ => rfl))
          clear hsc
          have hx2 := hx1.trans (hbn.mono hx1.size)
          clear hbn
          refine ⟨hx2, ?_⟩
          refine chainP_softv (.tuple #[.agg #[.bool true, .slice p1 1 r1, .slice p2 1 r2, .int .i64 0, .int .i64 0, .string ⟨#[]⟩, .slice none 0 0], .int .i64 0]) (by kernel_rfl) (by kernel_rfl) ?_ ?_
          · simp only [Act.put, List.getElem?_toArray, List.getElem?_cons_succ, List.getElem?_cons_zero, Option.bind_some, List.setIfInBounds_toArray, List.set_cons_succ, List.set_cons_zero, Nat.reduceAdd]
            intro u hu E hE
            go_wp2
            exact hE
          simp only [Act.put, List.getElem?_toArray, List.getElem?_cons_succ, List.getElem?_cons_zero, Option.bind_some, List.setIfInBounds_toArray, List.set_cons_succ, List.set_cons_zero, Nat.reduceAdd]
          refine chainP_softv (.agg #[.bool true, .slice p1 1 r1, .slice p2 1 r2, .int .i64 0, .int .i64 0, .string ⟨#[]⟩, .slice none 0 0]) (by kernel_rfl) (by kernel_rfl) ?_ ?_
          · simp only [Act.put, List.getElem?_toArray, List.getElem?_cons_succ, List.getElem?_cons_zero, Option.bind_some, List.setIfInBounds_toArray, List.set_cons_succ, List.set_cons_zero, Nat.reduceAdd]
            intro u hu E hE
            go_wp2
            exact hE
          simp only [Act.put, List.getElem?_toArray, List.getElem?_cons_succ, List.getElem?_cons_zero, Option.bind_some, List.setIfInBounds_toArray, List.set_cons_succ, List.set_cons_zero, Nat.reduceAdd]
          refine chainP_softv (.int .i64 0) (by kernel_rfl) (by kernel_rfl) ?_ ?_
          · simp only [Act.put, List.getElem?_toArray, List.getElem?_cons_succ, List.getElem?_cons_zero, Option.bind_some, List.setIfInBounds_toArray, List.set_cons_succ, List.set_cons_zero, Nat.reduceAdd]
            intro u hu E hE
            go_wp2
            exact hE
          simp only [Act.put, List.getElem?_toArray, List.getElem?_cons_succ, List.getElem?_cons_zero, Option.bind_some, List.setIfInBounds_toArray, List.set_cons_succ, List.set_cons_zero, Nat.reduceAdd]
          refine chainP_one ?_
          intro E hE
          go_wp2
          have hrd := heap_alloc_new x2 (.cells #[.bool false, .slice none 0 0, .slice none 0 0, .int .i64 0, .int .i64 0, .string ⟨#[]⟩, .slice none 0 0] 71 (0, 0))
          have hbn := (Below.refl x2.heap.size x2).alloc (Nat.le_refl _) (.cells #[.bool false, .slice none 0 0, .slice none 0 0, .int .i64 0, .int .i64 0, .string ⟨#[]⟩, .slice none 0 0] 71 (0, 0))
          have hgl : wd6.heap.size ≤ x2.heap.size := hx2.size
          replace HSC := Lib.hid (HSC.out.lt2.imp (P' := fun b => b ≠ x2.heap.size) (fun b hb => by have := hb.2; omega) (fun _ _ _ => rfl))
          replace HSC := Lib.hid (HSC.out.below hbn)
          have hx3 := hx2.trans (hbn.mono hx2.size)
          clear hbn
          refine ⟨hx3, ?_⟩
          generalize hG3 : x2.alloc (.cells #[.bool false, .slice none 0 0, .slice none 0 0, .int .i64 0, .int .i64 0, .string ⟨#[]⟩, .slice none 0 0] 71 (0, 0)) = x3 at *
          clear hG3
          refine chainP_one ?_
          intro E hE
          go_wp2_with (refine wpList_store_row rfl 71 (.tmp 12) (.tmp 67) rfl (x2.heap.size) #[.bool true, .slice p1 1 r1, .slice p2 1 r2, .int .i64 0, .int .i64 0, .string ⟨#[]⟩, .slice none 0 0] rfl rfl _ _ hrd size_did rfl (one7 _ _ _ _ _ _ _) ?_)
          refine ⟨below_row hx3 hgl, ?_⟩
          refine chainP_softv (.int .i64 0) (by kernel_rfl) (by kernel_rfl) ?_ ?_
          · simp only [Act.put, List.getElem?_toArray, List.getElem?_cons_succ, List.getElem?_cons_zero, Option.bind_some, List.setIfInBounds_toArray, List.set_cons_succ, List.set_cons_zero, Nat.reduceAdd]
            intro u hu E hE
            go_wp2
            exact hE
          simp only [Act.put, List.getElem?_toArray, List.getElem?_cons_succ, List.getElem?_cons_zero, Option.bind_some, List.setIfInBounds_toArray, List.set_cons_succ, List.set_cons_zero, Nat.reduceAdd]
          have HFIN := Lib.hid (show CmpRel n wd6 (.pointer (some ⟨x2.heap.size, 0, none⟩)) (.int .i64 0) (x3.setRow (x2.heap.size) #[.bool true, .slice p1 1 r1, .slice p2 1 r2, .int .i64 0, .int .i64 0, .string ⟨#[]⟩, .slice none 0 0]) from cmp_rel hrd hx3 hgl (HN.out ▸ HSC.out))
          clear hrd HSC
          refine chainP_nil (rest_end (by decide) ?_)
          go_wp2
          go_meet
          exact CmpRel.lift HD.out HFIN.out
        · intro E hE
          go_wp2
          have hrd := heap_alloc_new x1 (.cells #[.bool false, .slice none 0 0, .slice none 0 0, .int .i64 0, .int .i64 0, .string ⟨#[]⟩, .slice none 0 0] 71 (0, 0))
          have hbn := (Below.refl x1.heap.size x1).alloc (Nat.le_refl _) (.cells #[.bool false, .slice none 0 0, .slice none 0 0, .int .i64 0, .int .i64 0, .string ⟨#[]⟩, .slice none 0 0] 71 (0, 0))
          have hgl : wd6.heap.size ≤ x1.heap.size := hx1.size
          replace hrw := hrw.below hbn
          have hx2 := hx1.trans (hbn.mono hx1.size)
          clear hbn
          refine ⟨hx2, ?_⟩
          generalize hG2 : x1.alloc (.cells #[.bool false, .slice none 0 0, .slice none 0 0, .int .i64 0, .int .i64 0, .string ⟨#[]⟩, .slice none 0 0] 71 (0, 0)) = x2 at *
          clear hG2
          refine chainP_one ?_
          intro E hE
          go_wp2_with (refine (sh_Do_compare [varT 9, X, Y] (varT 9) X Y AnyB _ _ _ hrw rfl hcks rfl rfl).mono ?_; rintro e x3 ⟨va, vt, rfl, hic, hsc, hbn⟩)
          obtain ⟨p1, r1, ea⟩ : ∃ q k, va = .slice q 1 k := hic.firsts
          obtain ⟨p2, r2, eb⟩ : ∃ q k, vt = .slice q 1 k := hsc.form
          subst ea eb
          clear hic hrw
          have hrd0 := hrd
          replace hrd := row_on hrd hbn
          have HSC := Lib.hid (hsc.imp (P' := fun b => b ≠ x1.heap.size) (fun b hb => by have := (Array.getElem?_eq_some_iff.1 hrd0).1; omega) (fun _ _ _ => rfl))
          clear hsc
          have hx3 := hx2.trans (hbn.mono hx2.size)
          clear hbn
          refine ⟨hx3, ?_⟩
          refine chainP_softv (.tuple #[.agg #[.bool true, .slice p1 1 r1, .slice p2 1 r2, .int .i64 0, .int .i64 0, .string ⟨#[]⟩, .slice none 0 0], .int .i64 0]) (by kernel_rfl) (by kernel_rfl) ?_ ?_
          · simp only [Act.put, List.getElem?_toArray, List.getElem?_cons_succ, List.getElem?_cons_zero, Option.bind_some, List.setIfInBounds_toArray, List.set_cons_succ, List.set_cons_zero, Nat.reduceAdd]
            intro u hu E hE
            go_wp2
            exact hE
          simp only [Act.put, List.getElem?_toArray, List.getElem?_cons_succ, List.getElem?_cons_zero, Option.bind_some, List.setIfInBounds_toArray, List.set_cons_succ, List.set_cons_zero, Nat.reduceAdd]
          refine chainP_softv (.agg #[.bool true, .slice p1 1 r1, .slice p2 1 r2, .int .i64 0, .int .i64 0, .string ⟨#[]⟩, .slice none 0 0]) (by kernel_rfl) (by kernel_rfl) ?_ ?_
          · simp only [Act.put, List.getElem?_toArray, List.getElem?_cons_succ, List.getElem?_cons_zero, Option.bind_some, List.setIfInBounds_toArray, List.set_cons_succ, List.set_cons_zero, Nat.reduceAdd]
            intro u hu E hE
            go_wp2
            exact hE
          simp only [Act.put, List.getElem?_toArray, List.getElem?_cons_succ, List.getElem?_cons_zero, Option.bind_some, List.setIfInBounds_toArray, List.set_cons_succ, List.set_cons_zero, Nat.reduceAdd]
          refine chainP_softv (.int .i64 0) (by kernel_rfl) (by kernel_rfl) ?_ ?_
          · simp only [Act.put, List.getElem?_toArray, List.getElem?_cons_succ, List.getElem?_cons_zero, Option.bind_some, List.setIfInBounds_toArray, List.set_cons_succ, List.set_cons_zero, Nat.reduceAdd]
            intro u hu E hE
            go_wp2
            exact hE
          simp only [Act.put, List.getElem?_toArray, List.getElem?_cons_succ, List.getElem?_cons_zero, Option.bind_some, List.setIfInBounds_toArray, List.set_cons_succ, List.set_cons_zero, Nat.reduceAdd]
          refine chainP_one ?_
          intro E hE
          go_wp2_with (refine wpList_store_row rfl 71 (.tmp 12) (.tmp 67) rfl (x1.heap.size) #[.bool true, .slice p1 1 r1, .slice p2 1 r2, .int .i64 0, .int .i64 0, .string ⟨#[]⟩, .slice none 0 0] rfl rfl _ _ hrd size_did rfl (one7 _ _ _ _ _ _ _) ?_)
          refine ⟨below_row hx3 hgl, ?_⟩
          refine chainP_softv (.int .i64 0) (by kernel_rfl) (by kernel_rfl) ?_ ?_
          · simp only [Act.put, List.getElem?_toArray, List.getElem?_cons_succ, List.getElem?_cons_zero, Option.bind_some, List.setIfInBounds_toArray, List.set_cons_succ, List.set_cons_zero, Nat.reduceAdd]
            intro u hu E hE
            go_wp2
            exact hE
          simp only [Act.put, List.getElem?_toArray, List.getElem?_cons_succ, List.getElem?_cons_zero, Option.bind_some, List.setIfInBounds_toArray, List.set_cons_succ, List.set_cons_zero, Nat.reduceAdd]
          have HFIN := Lib.hid (show CmpRel n wd6 (.pointer (some ⟨x1.heap.size, 0, none⟩)) (.int .i64 0) (x3.setRow (x1.heap.size) #[.bool true, .slice p1 1 r1, .slice p2 1 r2, .int .i64 0, .int .i64 0, .string ⟨#[]⟩, .slice none 0 0]) from cmp_rel hrd hx3 hgl (HN.out ▸ HSC.out))
          clear hrd HSC
          refine chainP_nil (rest_end (by decide) ?_)
          go_wp2
          go_meet
          exact CmpRel.lift HD.out HFIN.out
      · intro E hE
        go_wp2
        have hrd := heap_alloc_new x0 (.cells #[.bool false, .slice none 0 0, .slice none 0 0, .int .i64 0, .int .i64 0, .string ⟨#[]⟩, .slice none 0 0] 71 (0, 0))
        have hbn := (Below.refl x0.heap.size x0).alloc (Nat.le_refl _) (.cells #[.bool false, .slice none 0 0, .slice none 0 0, .int .i64 0, .int .i64 0, .string ⟨#[]⟩, .slice none 0 0] 71 (0, 0))
        have hgl : wd6.heap.size ≤ x0.heap.size := hx0.size
        have hx1 := hx0.trans (hbn.mono hx0.size)
        clear hbn
        refine ⟨hx1, ?_⟩
        generalize hG1 : x0.alloc (.cells #[.bool false, .slice none 0 0, .slice none 0 0, .int .i64 0, .int .i64 0, .string ⟨#[]⟩, .slice none 0 0] 71 (0, 0)) = x1 at *
        clear hG1
        refine chainP_one ?_
        intro E hE
        go_wp2
        have hrw : IsSl (x1.alloc (.cells #[.int .i64 1, .int .i64 9, .string ⟨#[]⟩, .slice none 0 0, .int .i64 X.k, .int .i64 X.n, .string X.s, .slice q1 X.args.length k1, .int .i64 Y.k, .int .i64 Y.n, .string Y.s, .slice q2 Y.args.length k2] 49 (0, 0))) AnyB (.slice (some ⟨x1.heap.size, 0, none⟩) 3 3) [varT 9, X, Y] := row3 (x := varT 9) (a := none) (c := 0) (var_is _ _ _) (HX7.out.below hx1).any (HY7.out.below hx1).any
        have hbn := (Below.refl x1.heap.size x1).alloc (Nat.le_refl _) (.cells #[.int .i64 1, .int .i64 9, .string ⟨#[]⟩, .slice none 0 0, .int .i64 X.k, .int .i64 X.n, .string X.s, .slice q1 X.args.length k1, .int .i64 Y.k, .int .i64 Y.n, .string Y.s, .slice q2 Y.args.length k2] 49 (0, 0))
        replace hrd := row_on hrd hbn
        have hx2 := hx1.trans (hbn.mono hx1.size)
        clear hbn
        refine ⟨hx2, ?_⟩
        generalize hG2 : x1.alloc (.cells #[.int .i64 1, .int .i64 9, .string ⟨#[]⟩, .slice none 0 0, .int .i64 X.k, .int .i64 X.n, .string X.s, .slice q1 X.args.length k1, .int .i64 Y.k, .int .i64 Y.n, .string Y.s, .slice q2 Y.args.length k2] 49 (0, 0)) = x2 at *
        clear hG2
        refine chainP_one ?_
        intro E hE
        go_wp2_with (refine (sh_Do_compare [varT 9, X, Y] (varT 9) X Y AnyB _ _ _ hrw rfl hcks rfl rfl).mono ?_; rintro e x3 ⟨va, vt, rfl, hic, hsc, hbn⟩)
        obtain ⟨p1, r1, ea⟩ : ∃ q k, va = .slice q 1 k := hic.firsts
        obtain ⟨p2, r2, eb⟩ : ∃ q k, vt = .slice q 1 k := hsc.form
        subst ea eb
        clear hic hrw
        have hrd0 := hrd
        replace hrd := row_on hrd hbn
        have HSC := Lib.hid (hsc.imp (P' := fun b => b ≠ x0.heap.size) (fun b hb => by have := (Array.getElem?_eq_some_iff.1 hrd0).1; omega) (fun _ _ _ => rfl))
        clear hsc
        have hx3 := hx2.trans (hbn.mono hx2.size)
        clear hbn
        refine ⟨hx3, ?_⟩
        refine chainP_softv (.tuple #[.agg #[.bool true, .slice p1 1 r1, .slice p2 1 r2, .int .i64 0, .int .i64 0, .string ⟨#[]⟩, .slice none 0 0], .int .i64 0]) (by kernel_rfl) (by kernel_rfl) ?_ ?_
        · simp only [Act.put, List.getElem?_toArray, List.getElem?_cons_succ, List.getElem?_cons_zero, Option.bind_some, List.setIfInBounds_toArray, List.set_cons_succ, List.set_cons_zero, Nat.reduceAdd]
          intro u hu E hE
          go_wp2
          exact hE
        simp only [Act.put, List.getElem?_toArray, List.getElem?_cons_succ, List.getElem?_cons_zero, Option.bind_some, List.setIfInBounds_toArray, List.set_cons_succ, List.set_cons_zero, Nat.reduceAdd]
        refine chainP_softv (.agg #[.bool true, .slice p1 1 r1, .slice p2 1 r2, .int .i64 0, .int .i64 0, .string ⟨#[]⟩, .slice none 0 0]) (by kernel_rfl) (by kernel_rfl) ?_ ?_
        · simp only [Act.put, List.getElem?_toArray, List.getElem?_cons_succ, List.getElem?_cons_zero, Option.bind_some, List.setIfInBounds_toArray, List.set_cons_succ, List.set_cons_zero, Nat.reduceAdd]
          intro u hu E hE
          go_wp2
          exact hE
        simp only [Act.put, List.getElem?_toArray, List.getElem?_cons_succ, List.getElem?_cons_zero, Option.bind_some, List.setIfInBounds_toArray, List.set_cons_succ, List.set_cons_zero, Nat.reduceAdd]
        refine chainP_softv (.int .i64 0) (by kernel_rfl) (by kernel_rfl) ?_ ?_
        · simp only [Act.put, List.getElem?_toArray, List.getElem?_cons_succ, List.getElem?_cons_zero, Option.bind_some, List.setIfInBounds_toArray, List.set_cons_succ, List.set_cons_zero, Nat.reduceAdd]
          intro u hu E hE
          go_wp2
          exact hE
        simp only [Act.put, List.getElem?_toArray, List.getElem?_cons_succ, List.getElem?_cons_zero, Option.bind_some, List.setIfInBounds_toArray, List.set_cons_succ, List.set_cons_zero, Nat.reduceAdd]
        refine chainP_one ?_
        intro E hE
        go_wp2_with (refine wpList_store_row rfl 71 (.tmp 12) (.tmp 67) rfl (x0.heap.size) #[.bool true, .slice p1 1 r1, .slice p2 1 r2, .int .i64 0, .int .i64 0, .string ⟨#[]⟩, .slice none 0 0] rfl rfl _ _ hrd size_did rfl (one7 _ _ _ _ _ _ _) ?_)
        refine ⟨below_row hx3 hgl, ?_⟩
        refine chainP_softv (.int .i64 0) (by kernel_rfl) (by kernel_rfl) ?_ ?_
        · simp only [Act.put, List.getElem?_toArray, List.getElem?_cons_succ, List.getElem?_cons_zero, Option.bind_some, List.setIfInBounds_toArray, List.set_cons_succ, List.set_cons_zero, Nat.reduceAdd]
          intro u hu E hE
          go_wp2
          exact hE
        simp only [Act.put, List.getElem?_toArray, List.getElem?_cons_succ, List.getElem?_cons_zero, Option.bind_some, List.setIfInBounds_toArray, List.set_cons_succ, List.set_cons_zero, Nat.reduceAdd]
        have HFIN := Lib.hid (show CmpRel n wd6 (.pointer (some ⟨x0.heap.size, 0, none⟩)) (.int .i64 0) (x3.setRow (x0.heap.size) #[.bool true, .slice p1 1 r1, .slice p2 1 r2, .int .i64 0, .int .i64 0, .string ⟨#[]⟩, .slice none 0 0]) from cmp_rel hrd hx3 hgl (HN.out ▸ HSC.out))
        clear hrd HSC
        refine chainP_nil (rest_end (by decide) ?_)
        go_wp2
        go_meet
        exact CmpRel.lift HD.out HFIN.out
    · intro E hE
      go_wp2
      have hrd := heap_alloc_new wd6 (.cells #[.bool false, .slice none 0 0, .slice none 0 0, .int .i64 0, .int .i64 0, .string ⟨#[]⟩, .slice none 0 0] 71 (0, 0))
      have hbn := (Below.refl wd6.heap.size wd6).alloc (Nat.le_refl _) (.cells #[.bool false, .slice none 0 0, .slice none 0 0, .int .i64 0, .int .i64 0, .string ⟨#[]⟩, .slice none 0 0] 71 (0, 0))
      have hgl : wd6.heap.size ≤ wd6.heap.size := hb0.size
      have hx0 := hb0.trans (hbn.mono hb0.size)
      clear hbn
      refine ⟨hx0, ?_⟩
      generalize hG0 : wd6.alloc (.cells #[.bool false, .slice none 0 0, .slice none 0 0, .int .i64 0, .int .i64 0, .string ⟨#[]⟩, .slice none 0 0] 71 (0, 0)) = x0 at *
      clear hG0
      refine chainP_one ?_
      intro E hE
      go_wp2_with (refine (l17_v _ _).mono ?_; rintro e x1 ⟨rfl, hbn⟩)
      replace hrd := row_on hrd hbn
      have hx1 := hx0.trans (hbn.mono hx0.size)
      clear hbn
      refine ⟨hx1, ?_⟩
      refine chainP_one ?_
      intro E hE
      go_wp2
      have hrw : IsSl (x1.alloc (.cells #[.int .i64 1, .int .i64 9, .string ⟨#[]⟩, .slice none 0 0, .int .i64 X.k, .int .i64 X.n, .string X.s, .slice q1 X.args.length k1, .int .i64 Y.k, .int .i64 Y.n, .string Y.s, .slice q2 Y.args.length k2] 49 (0, 0))) AnyB (.slice (some ⟨x1.heap.size, 0, none⟩) 3 3) [varT 9, X, Y] := row3 (x := varT 9) (a := none) (c := 0) (var_is _ _ _) (HX7.out.below hx1).any (HY7.out.below hx1).any
      have hbn := (Below.refl x1.heap.size x1).alloc (Nat.le_refl _) (.cells #[.int .i64 1, .int .i64 9, .string ⟨#[]⟩, .slice none 0 0, .int .i64 X.k, .int .i64 X.n, .string X.s, .slice q1 X.args.length k1, .int .i64 Y.k, .int .i64 Y.n, .string Y.s, .slice q2 Y.args.length k2] 49 (0, 0))
      replace hrd := row_on hrd hbn
      have hx2 := hx1.trans (hbn.mono hx1.size)
      clear hbn
      refine ⟨hx2, ?_⟩
      generalize hG2 : x1.alloc (.cells #[.int .i64 1, .int .i64 9, .string ⟨#[]⟩, .slice none 0 0, .int .i64 X.k, .int .i64 X.n, .string X.s, .slice q1 X.args.length k1, .int .i64 Y.k, .int .i64 Y.n, .string Y.s, .slice q2 Y.args.length k2] 49 (0, 0)) = x2 at *
      clear hG2
      refine chainP_one ?_
      intro E hE
      go_wp2_with (refine (sh_Do_compare [varT 9, X, Y] (varT 9) X Y AnyB _ _ _ hrw rfl hcks rfl rfl).mono ?_; rintro e x3 ⟨va, vt, rfl, hic, hsc, hbn⟩)
      obtain ⟨p1, r1, ea⟩ : ∃ q k, va = .slice q 1 k := hic.firsts
      obtain ⟨p2, r2, eb⟩ : ∃ q k, vt = .slice q 1 k := hsc.form
      subst ea eb
      clear hic hrw
      have hrd0 := hrd
      replace hrd := row_on hrd hbn
      have HSC := Lib.hid (hsc.imp (P' := fun b => b ≠ wd6.heap.size) (fun b hb => by have := (Array.getElem?_eq_some_iff.1 hrd0).1; omega) (fun _ _ _ => rfl))
      clear hsc
      have hx3 := hx2.trans (hbn.mono hx2.size)
      clear hbn
      refine ⟨hx3, ?_⟩
      refine chainP_softv (.tuple #[.agg #[.bool true, .slice p1 1 r1, .slice p2 1 r2, .int .i64 0, .int .i64 0, .string ⟨#[]⟩, .slice none 0 0], .int .i64 0]) (by kernel_rfl) (by kernel_rfl) ?_ ?_
      · simp only [Act.put, List.getElem?_toArray, List.getElem?_cons_succ, List.getElem?_cons_zero, Option.bind_some, List.setIfInBounds_toArray, List.set_cons_succ, List.set_cons_zero, Nat.reduceAdd]
        intro u hu E hE
        go_wp2
        exact hE
      simp only [Act.put, List.getElem?_toArray, List.getElem?_cons_succ, List.getElem?_cons_zero, Option.bind_some, List.setIfInBounds_toArray, List.set_cons_succ, List.set_cons_zero, Nat.reduceAdd]
      refine chainP_softv (.agg #[.bool true, .slice p1 1 r1, .slice p2 1 r2, .int .i64 0, .int .i64 0, .string ⟨#[]⟩, .slice none 0 0]) (by kernel_rfl) (by kernel_rfl) ?_ ?_
      · simp only [Act.put, List.getElem?_toArray, List.getElem?_cons_succ, List.getElem?_cons_zero, Option.bind_some, List.setIfInBounds_toArray, List.set_cons_succ, List.set_cons_zero, Nat.reduceAdd]
        intro u hu E hE
        go_wp2
        exact hE
      simp only [Act.put, List.getElem?_toArray, List.getElem?_cons_succ, List.getElem?_cons_zero, Option.bind_some, List.setIfInBounds_toArray, List.set_cons_succ, List.set_cons_zero, Nat.reduceAdd]
      refine chainP_softv (.int .i64 0) (by kernel_rfl) (by kernel_rfl) ?_ ?_
      · simp only [Act.put, List.getElem?_toArray, List.getElem?_cons_succ, List.getElem?_cons_zero, Option.bind_some, List.setIfInBounds_toArray, List.set_cons_succ, List.set_cons_zero, Nat.reduceAdd]
        intro u hu E hE
        go_wp2
        exact hE
      simp only [Act.put, List.getElem?_toArray, List.getElem?_cons_succ, List.getElem?_cons_zero, Option.bind_some, List.setIfInBounds_toArray, List.set_cons_succ, List.set_cons_zero, Nat.reduceAdd]
      refine chainP_one ?_
      intro E hE
      go_wp2_with (refine wpList_store_row rfl 71 (.tmp 12) (.tmp 67) rfl (wd6.heap.size) #[.bool true, .slice p1 1 r1, .slice p2 1 r2, .int .i64 0, .int .i64 0, .string ⟨#[]⟩, .slice none 0 0] rfl rfl _ _ hrd size_did rfl (one7 _ _ _ _ _ _ _) ?_)
      refine ⟨below_row hx3 hgl, ?_⟩
      refine chainP_softv (.int .i64 0) (by kernel_rfl) (by kernel_rfl) ?_ ?_
      · simp only [Act.put, List.getElem?_toArray, List.getElem?_cons_succ, List.getElem?_cons_zero, Option.bind_some, List.setIfInBounds_toArray, List.set_cons_succ, List.set_cons_zero, Nat.reduceAdd]
        intro u hu E hE
        go_wp2
        exact hE
      simp only [Act.put, List.getElem?_toArray, List.getElem?_cons_succ, List.getElem?_cons_zero, Option.bind_some, List.setIfInBounds_toArray, List.set_cons_succ, List.set_cons_zero, Nat.reduceAdd]
      have HFIN := Lib.hid (show CmpRel n wd6 (.pointer (some ⟨wd6.heap.size, 0, none⟩)) (.int .i64 0) (x3.setRow (wd6.heap.size) #[.bool true, .slice p1 1 r1, .slice p2 1 r2, .int .i64 0, .int .i64 0, .string ⟨#[]⟩, .slice none 0 0]) from cmp_rel hrd hx3 hgl (HN.out ▸ HSC.out))
      clear hrd HSC
      refine chainP_nil (rest_end (by decide) ?_)
      go_wp2
      go_meet
      exact CmpRel.lift HD.out HFIN.out
  case rest =>
    obtain ⟨g, q, k, q', k', rfl, rfl, hr12, hs12, hbc⟩ := hcut
    have hrow := row_on HI6.out hbc
    have HBF := Lib.hid (HB6.out.trans (hbc.mono HB6.out.size))
    have i0 := cell_of_row _ _ 0 _ _ _ hrow
    have i1 := cell_of_row _ _ 1 _ _ _ hrow
    have i2 := cell_of_row _ _ 2 _ _ _ hrow
    have i3 := cell_of_row _ _ 3 _ _ _ hrow
    have i4 := cell_of_row _ _ 4 _ _ _ hrow
    have i5 := cell_of_row _ _ 5 _ _ _ hrow
    obtain ⟨z0, z1, z2, z3, z4, z5, z6⟩ := row7 hr12
    obtain ⟨ob, oo, ea, -⟩ := hs12.at 0 (by simp)
    subst ea
    obtain ⟨qa, qc, t0, t1, t2, t3, -, hlb⟩ := (hs12.atb 0 (by simp)).read
    simp only [List.getElem_cons_zero, Nat.zero_mul, Nat.add_zero] at t0 t1 t2 t3
    replace t2 : wc.cell? ⟨ob, oo + 2, none⟩ = some (.string (ordS n)) := t2
    clear HRX6 HRY6 HI6 HX6 HY6 HB6 hrow hr12 hs12 hbc HCX HCY hcks HN
    have hsg : n < 0 ∨ n = 0 ∨ 0 < n := by omega
    rcases hsg with hsg | hsg | hsg
    · skip
      obtain rfl : b0 = true := by rw [HV0.out]; simp; try omega
      obtain rfl : b1 = false := by rw [HV1.out]; simp; try omega
      obtain rfl : b2 = false := by rw [HV2.out]; simp; try omega
      obtain rfl : b3 = true := by rw [HV3.out]; simp; try omega
      obtain rfl : b4 = false := by rw [HV4.out]; simp; try omega
      obtain rfl : b5 = true := by rw [HV5.out]; simp; try omega
      have hO : ordS n = ⟨#[60]⟩ := by unfold ordS; rw [if_pos hsg]
      rw [hO] at t2
      clear hO hsg HV0 HV1 HV2 HV3 HV4 HV5
      go_wp2
      refine wp_loop_rounds 4 ?_
      rw [rounds_succ]
      have hix : ∀ W : World, (Instr.index 75 (.agg #[.string ⟨#[60]⟩, .string ⟨#[61]⟩, .string ⟨#[62]⟩]) (.int .i64 0)).run Try.prog W = .ok (.string ⟨#[60]⟩) W := fun W => by kernel_rfl
      go_wp2
      clear hix
      rw [rounds_succ]
      have hix : ∀ W : World, (Instr.index 75 (.agg #[.string ⟨#[60]⟩, .string ⟨#[61]⟩, .string ⟨#[62]⟩]) (.int .i64 1)).run Try.prog W = .ok (.string ⟨#[61]⟩) W := fun W => by kernel_rfl
      go_wp2
      clear hix
      rw [rounds_succ]
      have hix : ∀ W : World, (Instr.index 75 (.agg #[.string ⟨#[60]⟩, .string ⟨#[61]⟩, .string ⟨#[62]⟩]) (.int .i64 2)).run Try.prog W = .ok (.string ⟨#[62]⟩) W := fun W => by kernel_rfl
      go_wp2
      clear hix
      rw [rounds_succ]
      go_wp2
      go_ret
      exact ⟨rfl, HBF.out⟩
    · skip
      obtain rfl : b0 = false := by rw [HV0.out]; simp; try omega
      obtain rfl : b1 = true := by rw [HV1.out]; simp; try omega
      obtain rfl : b2 = false := by rw [HV2.out]; simp; try omega
      obtain rfl : b3 = true := by rw [HV3.out]; simp; try omega
      obtain rfl : b4 = true := by rw [HV4.out]; simp; try omega
      obtain rfl : b5 = false := by rw [HV5.out]; simp; try omega
      have hO : ordS n = ⟨#[61]⟩ := by unfold ordS; rw [if_neg (by omega), if_neg (by omega)]
      rw [hO] at t2
      clear hO hsg HV0 HV1 HV2 HV3 HV4 HV5
      go_wp2
      refine wp_loop_rounds 4 ?_
      rw [rounds_succ]
      have hix : ∀ W : World, (Instr.index 75 (.agg #[.string ⟨#[60]⟩, .string ⟨#[61]⟩, .string ⟨#[62]⟩]) (.int .i64 0)).run Try.prog W = .ok (.string ⟨#[60]⟩) W := fun W => by kernel_rfl
      go_wp2
      clear hix
      rw [rounds_succ]
      have hix : ∀ W : World, (Instr.index 75 (.agg #[.string ⟨#[60]⟩, .string ⟨#[61]⟩, .string ⟨#[62]⟩]) (.int .i64 1)).run Try.prog W = .ok (.string ⟨#[61]⟩) W := fun W => by kernel_rfl
      go_wp2
      clear hix
      rw [rounds_succ]
      have hix : ∀ W : World, (Instr.index 75 (.agg #[.string ⟨#[60]⟩, .string ⟨#[61]⟩, .string ⟨#[62]⟩]) (.int .i64 2)).run Try.prog W = .ok (.string ⟨#[62]⟩) W := fun W => by kernel_rfl
      go_wp2
      clear hix
      rw [rounds_succ]
      go_wp2
      go_ret
      exact ⟨rfl, HBF.out⟩
    · skip
      obtain rfl : b0 = false := by rw [HV0.out]; simp; try omega
      obtain rfl : b1 = false := by rw [HV1.out]; simp; try omega
      obtain rfl : b2 = true := by rw [HV2.out]; simp; try omega
      obtain rfl : b3 = false := by rw [HV3.out]; simp; try omega
      obtain rfl : b4 = true := by rw [HV4.out]; simp; try omega
      obtain rfl : b5 = true := by rw [HV5.out]; simp; try omega
      have hO : ordS n = ⟨#[62]⟩ := by unfold ordS; rw [if_neg (by omega), if_pos hsg]
      rw [hO] at t2
      clear hO hsg HV0 HV1 HV2 HV3 HV4 HV5
      go_wp2
      refine wp_loop_rounds 4 ?_
      rw [rounds_succ]
      have hix : ∀ W : World, (Instr.index 75 (.agg #[.string ⟨#[60]⟩, .string ⟨#[61]⟩, .string ⟨#[62]⟩]) (.int .i64 0)).run Try.prog W = .ok (.string ⟨#[60]⟩) W := fun W => by kernel_rfl
      go_wp2
      clear hix
      rw [rounds_succ]
      have hix : ∀ W : World, (Instr.index 75 (.agg #[.string ⟨#[60]⟩, .string ⟨#[61]⟩, .string ⟨#[62]⟩]) (.int .i64 1)).run Try.prog W = .ok (.string ⟨#[61]⟩) W := fun W => by kernel_rfl
      go_wp2
      clear hix
      rw [rounds_succ]
      have hix : ∀ W : World, (Instr.index 75 (.agg #[.string ⟨#[60]⟩, .string ⟨#[61]⟩, .string ⟨#[62]⟩]) (.int .i64 2)).run Try.prog W = .ok (.string ⟨#[62]⟩) W := fun W => by kernel_rfl
      go_wp2
      clear hix
      rw [rounds_succ]
      go_wp2
      go_ret
      exact ⟨rfl, HBF.out⟩
set_option maxRecDepth 100000 in
theorem law_order (L M : List Pt) (v1 v2 : Value) (w : World) (h1 : PtSl w v1 L) (h2 : PtSl w v2 M) : Calls Try.prog 6 #[v1, v2] w (Says true w) := by
  by_cases g1 : 60 < L.length
  · obtain ⟨a1, c1, rfl, hc1, hm1⟩ := h1.form
    have H1 := Lib.hid h1
    clear h1
    have d1 : decide (60 < (L.length : Int)) = true := by simp; omega
    go_enter Try.func6, Try.ntmps6
    go_wp2_with (first
      | (go_at_call 27; refine (l17_alive _).mono ?_; rintro e1 w1 ⟨rfl, hb1⟩; have HB := Lib.hid hb1; clear hb1)
      | (refine (ref_great L _ _ (H1.out.below HB.out)).mono ?_; rintro e2 w2 ⟨rfl, rfl⟩))
    go_ret
    exact ⟨rfl, HB.out⟩
  by_cases g2 : 60 < M.length
  · obtain ⟨a1, c1, rfl, hc1, hm1⟩ := h1.form
    obtain ⟨a2, c2, rfl, hc2, hm2⟩ := h2.form
    have H1 := Lib.hid h1
    have H2 := Lib.hid h2
    clear h1 h2
    have d1 : decide (60 < (L.length : Int)) = false := by simp; omega
    have d2 : decide (60 < (M.length : Int)) = true := by simp; omega
    go_enter Try.func6, Try.ntmps6
    go_wp2_with fail
    refine (l17_alive _).mono ?_
    rintro e1 w1 ⟨rfl, hb1⟩
    have HB := Lib.hid hb1
    clear hb1
    go_wp2_with fail
    refine (ref_great L _ _ (H1.out.below HB.out)).mono ?_
    rintro e2 w2 ⟨rfl, rfl⟩
    go_wp2_with fail
    refine (ref_great M _ _ (H2.out.below HB.out)).mono ?_
    rintro e2 w2 ⟨rfl, rfl⟩
    go_wp2
    go_ret
    exact ⟨rfl, HB.out⟩
  exact law_order0 L M v1 v2 w h1 h2 (by omega) (by omega)
end Go.Proofs.Ytkhchmgdaolojaa.Tms

