
/-
  TermOrder, walked over the program.
-/
import Derived.Test.YtokhiolimioicaaAl3
import Derived.Test.YtokhiolimioicaaOrd
import Derived.Test.YtokhiolimioicaaChn
namespace Go.Proofs.Ytokhiolimioicaa.Tms
open Go Go.RowKit Go.Proofs.Ytokhiolimioicaa.Reg Go.Proofs.Ytokhiolimioicaa.Rws
set_option linter.unusedVariables false

theorem three (w : World) (a b c : Obj) : (((w.alloc a).alloc b).alloc c).heap[w.heap.size]? = some a ∧ (((w.alloc a).alloc b).alloc c).heap[w.heap.size + 1]? = some b ∧ (((w.alloc a).alloc b).alloc c).heap[w.heap.size + 1 + 1]? = some c ∧ (((w.alloc a).alloc b).alloc c).heap.size = w.heap.size + 3 ∧ Below w.heap.size w (((w.alloc a).alloc b).alloc c) := by
  obtain ⟨h1, h2, h3, h4⟩ := two w a b
  have h5 := heap_alloc_new ((w.alloc a).alloc b) c
  rw [h3] at h5
  exact ⟨(heap_alloc_old _ _ (by omega)).trans h1, (heap_alloc_old _ _ (by omega)).trans h2, h5, by simp, h4.alloc (by omega) _⟩

set_option maxRecDepth 100000 in
set_option maxHeartbeats 4000000 in
theorem law_order (L M N : List Pt) (v1 v2 v3 : Value) (w : World) (h1 : PtSl w v1 L) (h2 : PtSl w v2 M) (h3 : PtSl w v3 N) : Calls Try.prog 4 #[v1, v2, v3] w (Says true w) := by
  obtain ⟨a1, c1, rfl, hc1, hm1⟩ := h1.form
  obtain ⟨a2, c2, rfl, hc2, hm2⟩ := h2.form
  obtain ⟨a3, c3, rfl, hc3, hm3⟩ := h3.form
  have H1 := Lib.hid h1
  have H2 := Lib.hid h2
  have H3 := Lib.hid h3
  clear h1 h2 h3
  by_cases g1 : 60 < L.length
  · have d1 : decide (60 < (L.length : Int)) = true := by simp; omega
    go_enter Try.func4, Try.ntmps4
    go_wp2_with (first
      | (go_at_call 14; refine (l3_alive _).mono ?_; rintro e1 w1 ⟨rfl, hb1⟩; have HB := Lib.hid hb1; clear hb1)
      | (refine (ref_great L _ _ (H1.out.below HB.out)).mono ?_; rintro e2 w2 ⟨rfl, rfl⟩))
    go_ret
    exact ⟨rfl, HB.out⟩
  have d1 : decide (60 < (L.length : Int)) = false := by simp; omega
  by_cases g2 : 60 < M.length
  · have d2 : decide (60 < (M.length : Int)) = true := by simp; omega
    go_enter Try.func4, Try.ntmps4
    go_wp2_with fail
    refine (l3_alive _).mono ?_; rintro e1 w1 ⟨rfl, hb1⟩; have HB := Lib.hid hb1; clear hb1
    go_wp2_with fail
    refine (ref_great L _ _ (H1.out.below HB.out)).mono ?_; rintro e2 w2 ⟨rfl, rfl⟩
    go_wp2_with fail
    refine (ref_great M _ _ (H2.out.below HB.out)).mono ?_; rintro e2 w2 ⟨rfl, rfl⟩
    go_wp2
    go_ret
    exact ⟨rfl, HB.out⟩
  have d2 : decide (60 < (M.length : Int)) = false := by simp; omega
  by_cases g3 : 60 < N.length
  · have d3 : decide (60 < (N.length : Int)) = true := by simp; omega
    go_enter Try.func4, Try.ntmps4
    go_wp2_with fail
    refine (l3_alive _).mono ?_; rintro e1 w1 ⟨rfl, hb1⟩; have HB := Lib.hid hb1; clear hb1
    go_wp2_with fail
    refine (ref_great L _ _ (H1.out.below HB.out)).mono ?_; rintro e2 w2 ⟨rfl, rfl⟩
    go_wp2_with fail
    refine (ref_great M _ _ (H2.out.below HB.out)).mono ?_; rintro e2 w2 ⟨rfl, rfl⟩
    go_wp2_with fail
    refine (ref_great N _ _ (H3.out.below HB.out)).mono ?_; rintro e2 w2 ⟨rfl, rfl⟩
    go_wp2
    go_ret
    exact ⟨rfl, HB.out⟩
  have d3 : decide (60 < (N.length : Int)) = false := by simp; omega
  have z1 := goodT_size L
  have z2 := goodT_size M
  have z3 := goodT_size N
  go_enter Try.func4, Try.ntmps4
  go_wp2_with fail
  refine (l3_alive _).mono ?_; rintro e1 w1 ⟨rfl, hb1⟩; have HB := Lib.hid hb1; clear hb1
  go_wp2_with fail
  refine (ref_great L _ _ (H1.out.below HB.out)).mono ?_; rintro e2 w2 ⟨rfl, rfl⟩
  go_wp2_with fail
  refine (ref_great M _ _ (H2.out.below HB.out)).mono ?_; rintro e2 w2 ⟨rfl, rfl⟩
  go_wp2_with fail
  refine (ref_great N _ _ (H3.out.below HB.out)).mono ?_; rintro e2 w2 ⟨rfl, rfl⟩
  go_wp2_with fail
  refine (ref_good L _ _ (by omega) (H1.out.below HB.out)).mono ?_
  rintro e3 w3 ⟨v3, rfl, hi3, hb3⟩
  obtain ⟨b1, k1, rfl⟩ := hi3.form
  have HX := Lib.hid hi3.any
  have HB3 := Lib.hid (HB.out.trans (hb3.mono HB.out.size))
  clear hi3 hb3
  go_wp2_with fail
  refine (ref_good M _ _ (by omega) (H2.out.below HB3.out)).mono ?_
  rintro e4 w4 ⟨v4, rfl, hi4, hb4⟩
  obtain ⟨b2, k2, rfl⟩ := hi4.form
  have HY := Lib.hid hi4.any
  have HX4 := Lib.hid (HX.out.below hb4)
  have HB4 := Lib.hid (HB3.out.trans (hb4.mono HB3.out.size))
  clear hi4 hb4
  go_wp2_with fail
  refine (ref_good N _ _ (by omega) (H3.out.below HB4.out)).mono ?_
  rintro e5 w5 ⟨v5, rfl, hi5, hb5⟩
  obtain ⟨b3, k3, rfl⟩ := hi5.form
  have HZ := Lib.hid hi5.any
  have HX5 := Lib.hid (HX4.out.below hb5)
  have HY5 := Lib.hid (HY.out.below hb5)
  have HB5 := Lib.hid (HB4.out.trans (hb5.mono HB4.out.size))
  clear hi5 hb5 HX HX4 HY HB HB3 HB4 H1 H2 H3
  have c1 := cmpT_neg (goodT L) (goodT M)
  have c2 := cmpT_T3 (goodT L) (goodT M) (goodT N)
  have c3 := cmpT_same (goodT L) (goodT M)
  have c4 := cmpT_refl (goodT L)
  generalize goodT L = X at *
  generalize goodT M = Y at *
  generalize goodT N = Z at *
  have hX : X.size ≤ 1000000 := by omega
  have hY : Y.size ≤ 1000000 := by omega
  have hZ : Z.size ≤ 1000000 := by omega
  have C1 := Lib.hid c1
  have C2 := Lib.hid c2
  have C3 := Lib.hid c3
  have C4 := Lib.hid c4
  clear z1 z2 z3 c1 c2 c3 c4
  go_wp2
  obtain ⟨r0, r1, r2, rsz, rbl⟩ := three w5 (.cells #[.int .i64 X.k, .int .i64 X.n, .string X.s, .slice b1 X.args.length k1] 27 (0, 0)) (.cells #[.int .i64 Y.k, .int .i64 Y.n, .string Y.s, .slice b2 Y.args.length k2] 27 (0, 0)) (.cells #[.int .i64 Z.k, .int .i64 Z.n, .string Z.s, .slice b3 Z.args.length k3] 27 (0, 0))
  generalize (((w5.alloc (.cells #[.int .i64 X.k, .int .i64 X.n, .string X.s, .slice b1 X.args.length k1] 27 (0, 0))).alloc (.cells #[.int .i64 Y.k, .int .i64 Y.n, .string Y.s, .slice b2 Y.args.length k2] 27 (0, 0))).alloc (.cells #[.int .i64 Z.k, .int .i64 Z.n, .string Z.s, .slice b3 Z.args.length k3] 27 (0, 0))) = W at *
  refine wp_region_rest (by kernel_rfl) ?_
  have hd : Below w5.heap.size w5 W.drew := rbl.drew
  have hr0 : W.drew.heap[w5.heap.size]? = _ := r0
  have hr1 : W.drew.heap[w5.heap.size + 1]? = _ := r1
  have hr2 : W.drew.heap[w5.heap.size + 1 + 1]? = _ := r2
  have hsz : W.drew.heap.size = w5.heap.size + 3 := rsz
  have HXW := Lib.hid (HX5.out.below hd)
  have HYW := Lib.hid (HY5.out.below hd)
  have HZW := Lib.hid (HZ.out.below hd)
  have HBW := Lib.hid (HB5.out.trans (hd.mono HB5.out.size))
  have HR0 := Lib.hid hr0
  have HR1 := Lib.hid hr1
  have HSZ := Lib.hid hsz
  obtain ⟨x0, x1, x2, x3⟩ := row4 hr0
  obtain ⟨y0, y1, y2, y3⟩ := row4 hr1
  obtain ⟨z0, z1, z2, z3⟩ := row4 hr2
  clear hd hr0 hr1 hr2 hsz r0 r1 r2 rsz rbl HX5 HY5 HZ HB5
  generalize W.drew = W0 at *
  generalize w5.heap.size = b at *
  refine rest_chain 0 12 [(false, [0, 1, 3, 4, 6, 7]), (true, [2]), (true, [5]), (true, [8]), (false, [9, 10, 11])] [(false, [_, _, _, _, _, _]), (true, [_]), (true, [_]), (true, [_]), (false, [_, _, _])] rfl (by kernel_rfl) (by kernel_rfl) rfl (by kernel_rfl) (by kernel_rfl) (.inl rfl) ?_
  refine chain_soft ?_
  intro E hE
  go_wp2
  clear x0 x1 x2 x3 y0 y1 y2 y3 z0 z1 z2 z3
  refine chain_one ?_
  intro E hE
  go_wp2_with (refine (tm_Compare X Y _ _ _ _ _ (by omega) (by omega) HXW.out HYW.out).mono ?_; rintro e6 w6 ⟨rfl, hb6⟩; have HB6 := Lib.hid hb6; clear hb6)
  refine ⟨HB6.out, ?_⟩
  refine chain_one ?_
  intro E hE
  go_wp2_with (refine (tm_Compare Y Z _ _ _ _ _ (by omega) (by omega) (HYW.out.below HB6.out) (HZW.out.below HB6.out)).mono ?_; rintro e7 w7 ⟨rfl, hb7⟩; have HB7 := Lib.hid (HB6.out.trans (hb7.mono HB6.out.size)); have HC7 := Lib.hid hb7; clear hb7)
  refine ⟨HC7.out, ?_⟩
  refine chain_one ?_
  intro E hE
  go_wp2_with (refine (tm_Compare X Z _ _ _ _ _ (by omega) (by omega) (HXW.out.below HB7.out) (HZW.out.below HB7.out)).mono ?_; rintro e8 w8 ⟨rfl, hb8⟩; have HB8 := Lib.hid (HB7.out.trans (hb8.mono HB7.out.size)); have HC8 := Lib.hid hb8; clear hb8)
  refine ⟨HC8.out, ?_⟩
  refine chain_soft ?_
  intro E hE
  go_wp2
  refine chain_nil (rest_end (by decide) ?_)
  have HX8 := Lib.hid (HXW.out.below HB8.out)
  have HY8 := Lib.hid (HYW.out.below HB8.out)
  obtain ⟨x0, x1, x2, x3⟩ := row4 ((HB8.out.block b (by have := HSZ.out; omega)).trans HR0.out)
  obtain ⟨y0, y1, y2, y3⟩ := row4 ((HB8.out.block (b + 1) (by have := HSZ.out; omega)).trans HR1.out)
  have HR8 := Lib.hid ((HB8.out.block b (by have := HSZ.out; omega)).trans HR0.out)
  have HS8 := Lib.hid ((HB8.out.block (b + 1) (by have := HSZ.out; omega)).trans HR1.out)
  have HBF := Lib.hid (HBW.out.trans (HB8.out.mono HBW.out.size))
  have hb8 : b + 3 ≤ w8.heap.size := by have := HSZ.out; have := HB8.out.size; omega
  clear HB6 HB7 HC7 HC8 HXW HYW HZW HBW HR0 HR1 HSZ HB8
  have hyx : ∀ V W P P' (h : IsTm W P V Y) (U) (h' : IsTm W P' U X), Calls Try.prog 24 #[V, U] W fun e w' => e = .returned (.int .i64 (-cmpT X Y)) ∧ Below W.heap.size W w' := fun V W P P' h U h' => by
    have := tm_Compare Y X V U P P' W (by omega) (by omega) h h'
    rw [show cmpT Y X = -cmpT X Y by have := C1.out; omega] at this
    exact this
  have hxx : ∀ V W P P' (h : IsTm W P V X) (U) (h' : IsTm W P' U X), Calls Try.prog 24 #[V, U] W fun e w' => e = .returned (.int .i64 0) ∧ Below W.heap.size W w' := fun V W P P' h U h' => by
    have := tm_Compare X X V U P P' W (by omega) (by omega) h h'
    rw [C4.out] at this
    exact this
  have hsm : ∀ V W P P' (h : IsTm W P V X) (U) (h' : IsTm W P' U Y), Calls Try.prog 25 #[V, U] W (Says (decide (cmpT X Y = 0)) W) := fun V W P P' h U h' => by
    have := ref_same _ X Y V U P P' W (Nat.le_refl _) (by omega) h h'
    have e : sameT X Y = decide (cmpT X Y = 0) := by
      cases hs : sameT X Y
      · have hn : ¬ cmpT X Y = 0 := fun h => by rw [C3.out.1 h] at hs; cases hs
        simp [hn]
      · simp [C3.out.2 hs]
    rw [e] at this
    exact this
  have HYX := Lib.hid hyx
  have HXX := Lib.hid hxx
  have HSM := Lib.hid hsm
  have p3 := cmpT_range X Y
  have q3 := cmpT_range Y Z
  have r3 := cmpT_range X Z
  have T := C2.out
  clear hyx hxx hsm C1 C2 C3 C4
  generalize cmpT X Y = p at *
  generalize cmpT Y Z = q at *
  generalize cmpT X Z = r at *
  rcases p3 with rfl | rfl | rfl
  all_goals
    go_wp2_with fail
    refine (HYX.out _ _ _ _ HY8.out _ HX8.out).mono ?_
    rintro e9 w9 ⟨rfl, hb9⟩
    have HX9 := Lib.hid (HX8.out.below hb9)
    have HY9 := Lib.hid (HY8.out.below hb9)
    have HBF9 := Lib.hid (HBF.out.trans (hb9.mono HBF.out.size))
    clear x0 x1 x2 x3 y0 y1 y2 y3
    obtain ⟨x0, x1, x2, x3⟩ := row4 ((hb9.block b (by omega)).trans HR8.out)
    obtain ⟨y0, y1, y2, y3⟩ := row4 ((hb9.block (b + 1) (by omega)).trans HS8.out)
    have HR9 := Lib.hid ((hb9.block b (by omega)).trans HR8.out)
    have hs9 : b + 3 ≤ w9.heap.size := by have := hb9.size; omega
    clear hb9 HX8 HY8 HBF HR8 HS8
    go_wp2_with fail
    refine (HSM.out _ _ _ _ HX9.out _ HY9.out).mono ?_
    rintro e10 w10 ⟨rfl, hb10⟩
    have HX10 := Lib.hid (HX9.out.below hb10)
    have HBF10 := Lib.hid (HBF9.out.trans (hb10.mono HBF9.out.size))
    clear x0 x1 x2 x3 y0 y1 y2 y3
    obtain ⟨x0, x1, x2, x3⟩ := row4 ((hb10.block b (by omega)).trans HR9.out)
    clear hb10 HX9 HY9 HBF9 HR9
    go_wp2_with fail
    refine (HXX.out _ _ _ _ HX10.out _ HX10.out).mono ?_
    rintro e11 w11 ⟨rfl, hb11⟩
    have HBF11 := Lib.hid (HBF10.out.trans (hb11.mono HBF10.out.size))
    clear hb11 x0 x1 x2 x3 HX10 HBF10 HXX HSM HYX
    rcases q3 with rfl | rfl | rfl
    all_goals rcases r3 with rfl | rfl | rfl
    all_goals first
      | (exfalso; revert T; unfold T3; omega)
      | (clear T
         go_wp2
         go_ret
         exact ⟨rfl, HBF11.out⟩)
end Go.Proofs.Ytokhiolimioicaa.Tms
