/-
  The law CodeChecks, walked over the program: whatever the code and the place, it answers true.
-/
import Derived.Test.YtlndoogiflcoeaaCodA
namespace Go.Proofs.Ytlndoogiflcoeaa.Cod
open Go Go.RowKit Go.Proofs.Ytlndoogiflcoeaa.Reg

theorem row5 {w : World} {g : Nat} {y0 y1 y2 y3 y4 : Value} {T : TypeId} {fr : Nat × Nat} (h : w.heap[g]? = some (.cells #[y0, y1, y2, y3, y4] T fr)) :
    w.cell? ⟨g, 0, none⟩ = some y0 ∧ w.cell? ⟨g, 1, none⟩ = some y1 ∧ w.cell? ⟨g, 2, none⟩ = some y2 ∧ w.cell? ⟨g, 3, none⟩ = some y3 ∧ w.cell? ⟨g, 4, none⟩ = some y4 :=
  ⟨cell_of_row w g 0 _ _ _ h, cell_of_row w g 1 _ _ _ h, cell_of_row w g 2 _ _ _ h, cell_of_row w g 3 _ _ _ h, cell_of_row w g 4 _ _ _ h⟩

def IsCod (c : Cod) (v : Value) (u : World) : Prop := ∃ vs, v = codVal c vs ∧ InsSl u vs c.l
theorem IsCod.below {c : Cod} {v : Value} {u u' : World} (h : IsCod c v u) (hb : Below u.heap.size u u') : IsCod c v u' :=
  let ⟨vs, e, h⟩ := h; ⟨vs, e, h.below hb⟩

set_option maxRecDepth 100000 in
set_option maxHeartbeats 3200000 in
theorem law_checks (c : Cod) (v : Value) (z : Int) (w : World) (hv : InsSl w v c.l) :
    Calls Try.prog 5 #[codVal c v, .int .i64 z] w (Says true w) := by
  obtain ⟨aa, cap, rfl⟩ := hv.form
  obtain ⟨nm, ar, sl, bo, L⟩ := c
  dsimp only at *
  have hW0 : Below w.heap.size w (w.alloc (.cells #[.string nm, .int .i64 ar, .int .i64 sl, .int .i64 bo, .slice aa L.length cap] 41)) := (Below.refl _ _).alloc (Nat.le_refl _) _
  have hB0 : (w.alloc (.cells #[.string nm, .int .i64 ar, .int .i64 sl, .int .i64 bo, .slice aa L.length cap] 41)).heap[w.heap.size]? = some (.cells #[.string nm, .int .i64 ar, .int .i64 sl, .int .i64 bo, .slice aa L.length cap] 41 (0, 0)) := heap_alloc_new w _
  have hlt0 : w.heap.size < (w.alloc (.cells #[.string nm, .int .i64 ar, .int .i64 sl, .int .i64 bo, .slice aa L.length cap] 41)).heap.size := by simp
  have HV := Lib.hid hv
  have HW0 := Lib.hid hW0
  have HB0 := Lib.hid hB0
  clear hv hW0 hB0
  go_enter Try.func5, Try.ntmps5
  go_wp2_with fail
  generalize (w.alloc (.cells #[.string nm, .int .i64 ar, .int .i64 sl, .int .i64 bo, .slice aa L.length cap] 41)) = W at *
  refine (alive_any _).mono ?_
  rintro e w1 ⟨rfl, hb1⟩
  have hblk1 := (hb1.block _ hlt0).trans HB0.out
  have HB1 := Lib.hid hblk1
  have hc := row5 hblk1
  have c0 := hc.1
  have c1 := hc.2.1
  have c2 := hc.2.2.1
  have c3 := hc.2.2.2.1
  have c4 := hc.2.2.2.2
  have HW1 := Lib.hid (HW0.out.trans (hb1.mono HW0.out.size))
  have hlt1 : w.heap.size < w1.heap.size := by have := hb1.size; omega
  clear hc hblk1 hb1
  by_cases hlen : 2000 < L.length
  · go_wp2
    go_ret
    exact says rfl HW1.out
  · go_wp2_with fail
    refine (to_any ⟨nm, ar, sl, bo, L⟩ _ _ (HV.out.below HW1.out) (by dsimp only; omega)).mono ?_
    rintro e w2 ⟨vs, rfl, hvs, hb2⟩
    obtain ⟨xa, xcap, rfl⟩ := hvs.form
    have hblk2 := (hb2.block _ hlt1).trans HB1.out
    have hX : ∀ o, Below w.heap.size w (w2.alloc o) ∧ (w2.alloc o).heap[w.heap.size]? = some (.cells #[.string nm, .int .i64 ar, .int .i64 sl, .int .i64 bo, .slice aa L.length cap] 41 (0, 0)) ∧ (w2.alloc o).heap[w2.heap.size]? = some o ∧
        InsSl (w2.alloc o) (.slice xa L.length xcap) L ∧ w.heap.size < w2.heap.size ∧ w2.heap.size < (w2.alloc o).heap.size := fun o =>
      ⟨(HW1.out.trans (hb2.mono HW1.out.size)).alloc (by have := hb2.size; omega) o, (Below.heap_alloc _ _ _ (by have := hb2.size; omega)).trans hblk2, heap_alloc_new w2 o, hvs.below ((Below.refl _ _).alloc (Nat.le_refl _) _), by have := hb2.size; omega, by simp⟩
    have HX := Lib.hid (hX (.cells #[.string nm, .int .i64 ar, .int .i64 sl, .int .i64 bo, .slice xa L.length xcap] 44))
    clear hX hblk2 hb2 hvs c0 c1 c2 c3 c4
    go_wp2
    refine wp_region_rest (by kernel_rfl) ?_
    have hd := (Below.refl (w2.alloc (.cells #[.string nm, .int .i64 ar, .int .i64 sl, .int .i64 bo, .slice xa L.length xcap] 44)).heap.size (w2.alloc (.cells #[.string nm, .int .i64 ar, .int .i64 sl, .int .i64 bo, .slice xa L.length xcap] 44))).drew
    generalize (w2.alloc (.cells #[.string nm, .int .i64 ar, .int .i64 sl, .int .i64 bo, .slice xa L.length xcap] 44)) = V at *
    have hz0 : w.heap.size < w2.heap.size := HX.out.2.2.2.2.1
    have hz1 : w2.heap.size < V.heap.size := HX.out.2.2.2.2.2
    have hVw : ∀ u, Below V.heap.size V u → Below w.heap.size w u := fun u hu => HX.out.1.trans (hu.mono (by omega))
    have hVx : ∀ u, Below V.heap.size V u → u.heap[w2.heap.size]? = some (.cells #[.string nm, .int .i64 ar, .int .i64 sl, .int .i64 bo, .slice xa L.length xcap] 44 (0, 0)) := fun u hu => (hu.block _ hz1).trans HX.out.2.2.1
    have hVc : ∀ u, Below V.heap.size V u → u.heap[w.heap.size]? = some (.cells #[.string nm, .int .i64 ar, .int .i64 sl, .int .i64 bo, .slice aa L.length cap] 41 (0, 0)) := fun u hu => (hu.block _ (by omega)).trans HX.out.2.1
    have hVs : ∀ u, Below V.heap.size V u → InsSl u (.slice xa L.length xcap) L := fun u hu => HX.out.2.2.2.1.below hu
    have hVa : ∀ u, Below V.heap.size V u → InsSl u (.slice aa L.length cap) L := fun u hu => HV.out.below (hVw u hu)
    have HVw := Lib.hid hVw
    have HVx := Lib.hid hVx
    have HVc := Lib.hid hVc
    have HVs := Lib.hid hVs
    have HVa := Lib.hid hVa
    clear hVw hVx hVc hVs hVa
    have hdsz : V.drew.heap.size = V.heap.size := rfl
    have HD := Lib.hid hd
    have hk0 : ∀ u, Below V.drew.heap.size V.drew u → Below V.heap.size V u := fun u hu => HD.out.trans hu
    have HK0 := Lib.hid hk0
    clear hd hk0 hdsz
    generalize V.drew = W0 at *
    refine rest_ops 0 3 36 (fun j v _ => match j with | 0 => v = codVal ⟨nm, ar, sl, bo, L⟩ (.slice xa L.length xcap) | 1 => v = .int .i64 (check ⟨nm, ar, sl, bo, L⟩) | 2 => v = codVal ⟨nm, ar, sl, bo, L⟩ (.slice aa L.length cap) | _ => True) (fun _ _ => none) (by kernel_rfl) (by kernel_rfl) rfl (.inr (by kernel_rfl)) ?hS ?hop ?_
    case hS => intro j v u u' _ _ h _; exact h
    case hop =>
      refine ⟨fun v u hu hs Q' hQ => ?_, fun v u hu hs Q' hQ => ?_, fun v u hu hs Q' hQ => ?_, trivial⟩
      · simp only [putAll, dstOf]
        have x := row5 (HVx.out u (HK0.out u hu))
        have x0 := x.1
        have x1 := x.2.1
        have x2 := x.2.2.1
        have x3 := x.2.2.2.1
        have x4 := x.2.2.2.2
        have y := row5 (HVc.out u (HK0.out u hu))
        have y0 := y.1
        have y1 := y.2.1
        have y2 := y.2.2.1
        have y3 := y.2.2.2.1
        have y4 := y.2.2.2.2
        clear x y
        go_wp2
        exact ⟨rfl, Below.refl _ _, rfl, fun _ h => nomatch h⟩
      · simp only [putAll, dstOf]
        have s_0 : v 0 = codVal ⟨nm, ar, sl, bo, L⟩ (.slice xa L.length xcap) := hs 0 (by kernel_rfl) (by decide) (by decide)
        have x := row5 (HVx.out u (HK0.out u hu))
        have x0 := x.1
        have x1 := x.2.1
        have x2 := x.2.2.1
        have x3 := x.2.2.2.1
        have x4 := x.2.2.2.2
        have y := row5 (HVc.out u (HK0.out u hu))
        have y0 := y.1
        have y1 := y.2.1
        have y2 := y.2.2.1
        have y3 := y.2.2.2.1
        have y4 := y.2.2.2.2
        clear x y
        go_wp2_with (go_at_call 25; refine (go_check ⟨nm, ar, sl, bo, L⟩ _ _ (HVs.out u (HK0.out u hu))).mono ?_; rintro e w3 ⟨rfl, hb3⟩)
        exact ⟨rfl, hb3, rfl, fun _ h => nomatch h⟩
      · simp only [putAll, dstOf]
        have x := row5 (HVx.out u (HK0.out u hu))
        have x0 := x.1
        have x1 := x.2.1
        have x2 := x.2.2.1
        have x3 := x.2.2.2.1
        have x4 := x.2.2.2.2
        have y := row5 (HVc.out u (HK0.out u hu))
        have y0 := y.1
        have y1 := y.2.1
        have y2 := y.2.2.1
        have y3 := y.2.2.2.1
        have y4 := y.2.2.2.2
        clear x y
        go_wp2
        exact ⟨rfl, Below.refl _ _, rfl, fun _ h => nomatch h⟩
    intro v u hu hs hap
    have s_0 : v 0 = codVal ⟨nm, ar, sl, bo, L⟩ (.slice xa L.length xcap) := hs 0 (by decide) (by decide)
    have s_1 : v 1 = .int .i64 (check ⟨nm, ar, sl, bo, L⟩) := hs 1 (by decide) (by decide)
    have s_2 : v 2 = codVal ⟨nm, ar, sl, bo, L⟩ (.slice aa L.length cap) := hs 2 (by decide) (by decide)
    simp only [putAll, dstOf]
    have HK1 : Hid (Below V.heap.size V u) := Lib.hid (HK0.out u hu)
    clear hs hap hu HK0
    refine rest_line' 3 5 (by kernel_rfl) (by decide) (by decide) (by kernel_rfl) ?_
    simp only [List.drop_succ_cons, List.drop_zero, Nat.reduceSub, List.take_succ_cons, List.take_zero]
    go_wp2_with (go_at_call 26; refine (ref_check ⟨nm, ar, sl, bo, L⟩ _ _ (HVa.out _ HK1.out)).mono ?_; rintro e w3 ⟨rfl, hb3⟩)
    have HK2 : Hid (Below V.heap.size V w3) := Lib.hid (HK1.out.trans (hb3.mono HK1.out.size))
    clear hb3 s_0 s_1 s_2 HK1
    clear v
    generalize w3 = W0 at *
    refine then_rest ?_
    refine rest_ops 5 13 36 (fun j v _ => match j with | 5 => v = .bool true | 6 => v = .pointer (some ⟨w2.heap.size, 4, none⟩) | 7 => v = .slice xa L.length xcap | 8 => v = .int .i64 z | 9 => v = .int .i64 (skip L z) | 10 => v = .pointer (some ⟨w.heap.size, 4, none⟩) | 11 => v = .slice aa L.length cap | 12 => v = .int .i64 z | _ => True) (fun _ _ => none) (by kernel_rfl) (by kernel_rfl) rfl (.inr (by kernel_rfl)) ?hS ?hop ?_
    case hS => intro j v u u' _ _ h _; exact h
    case hop =>
      refine ⟨fun v u hu hs Q' hQ => ?_, fun v u hu hs Q' hQ => ?_, fun v u hu hs Q' hQ => ?_, fun v u hu hs Q' hQ => ?_, fun v u hu hs Q' hQ => ?_, fun v u hu hs Q' hQ => ?_, fun v u hu hs Q' hQ => ?_, fun v u hu hs Q' hQ => ?_, trivial⟩
      · simp only [putAll, dstOf]
        have hK := HK2.out.trans (hu.mono HK2.out.size)
        have x4 := (row5 (HVx.out u hK)).2.2.2.2
        have y4 := (row5 (HVc.out u hK)).2.2.2.2
        go_wp2
        exact ⟨rfl, Below.refl _ _, rfl, fun _ h => nomatch h⟩
      · simp only [putAll, dstOf]
        have s_5 : v 5 = .bool true := hs 5 (by kernel_rfl) (by decide) (by decide)
        have hK := HK2.out.trans (hu.mono HK2.out.size)
        have x4 := (row5 (HVx.out u hK)).2.2.2.2
        have y4 := (row5 (HVc.out u hK)).2.2.2.2
        go_wp2
        exact ⟨rfl, Below.refl _ _, rfl, fun _ h => nomatch h⟩
      · simp only [putAll, dstOf]
        have s_5 : v 5 = .bool true := hs 5 (by kernel_rfl) (by decide) (by decide)
        have s_6 : v 6 = .pointer (some ⟨w2.heap.size, 4, none⟩) := hs 6 (by kernel_rfl) (by decide) (by decide)
        have hK := HK2.out.trans (hu.mono HK2.out.size)
        have x4 := (row5 (HVx.out u hK)).2.2.2.2
        have y4 := (row5 (HVc.out u hK)).2.2.2.2
        go_wp2
        exact ⟨rfl, Below.refl _ _, rfl, fun _ h => nomatch h⟩
      · simp only [putAll, dstOf]
        have s_5 : v 5 = .bool true := hs 5 (by kernel_rfl) (by decide) (by decide)
        have hK := HK2.out.trans (hu.mono HK2.out.size)
        have x4 := (row5 (HVx.out u hK)).2.2.2.2
        have y4 := (row5 (HVc.out u hK)).2.2.2.2
        go_wp2
        exact ⟨rfl, Below.refl _ _, rfl, fun _ h => nomatch h⟩
      · simp only [putAll, dstOf]
        have s_5 : v 5 = .bool true := hs 5 (by kernel_rfl) (by decide) (by decide)
        have s_7 : v 7 = .slice xa L.length xcap := hs 7 (by kernel_rfl) (by decide) (by decide)
        have s_8 : v 8 = .int .i64 z := hs 8 (by kernel_rfl) (by decide) (by decide)
        have hK := HK2.out.trans (hu.mono HK2.out.size)
        have x4 := (row5 (HVx.out u hK)).2.2.2.2
        have y4 := (row5 (HVc.out u hK)).2.2.2.2
        go_wp2_with (go_at_call 27; refine (go_skip L z _ _ (HVs.out u hK) (by omega)).mono ?_; rintro e w4 ⟨rfl, hb4⟩)
        exact ⟨rfl, hb4, rfl, fun _ h => nomatch h⟩
      · simp only [putAll, dstOf]
        have s_5 : v 5 = .bool true := hs 5 (by kernel_rfl) (by decide) (by decide)
        have hK := HK2.out.trans (hu.mono HK2.out.size)
        have x4 := (row5 (HVx.out u hK)).2.2.2.2
        have y4 := (row5 (HVc.out u hK)).2.2.2.2
        go_wp2
        exact ⟨rfl, Below.refl _ _, rfl, fun _ h => nomatch h⟩
      · simp only [putAll, dstOf]
        have s_5 : v 5 = .bool true := hs 5 (by kernel_rfl) (by decide) (by decide)
        have s_10 : v 10 = .pointer (some ⟨w.heap.size, 4, none⟩) := hs 10 (by kernel_rfl) (by decide) (by decide)
        have hK := HK2.out.trans (hu.mono HK2.out.size)
        have x4 := (row5 (HVx.out u hK)).2.2.2.2
        have y4 := (row5 (HVc.out u hK)).2.2.2.2
        go_wp2
        exact ⟨rfl, Below.refl _ _, rfl, fun _ h => nomatch h⟩
      · simp only [putAll, dstOf]
        have s_5 : v 5 = .bool true := hs 5 (by kernel_rfl) (by decide) (by decide)
        have hK := HK2.out.trans (hu.mono HK2.out.size)
        have x4 := (row5 (HVx.out u hK)).2.2.2.2
        have y4 := (row5 (HVc.out u hK)).2.2.2.2
        go_wp2
        exact ⟨rfl, Below.refl _ _, rfl, fun _ h => nomatch h⟩
    intro v u hu hs hap
    have s_5 : v 5 = .bool true := hs 5 (by decide) (by decide)
    have s_6 : v 6 = .pointer (some ⟨w2.heap.size, 4, none⟩) := hs 6 (by decide) (by decide)
    have s_7 : v 7 = .slice xa L.length xcap := hs 7 (by decide) (by decide)
    have s_8 : v 8 = .int .i64 z := hs 8 (by decide) (by decide)
    have s_9 : v 9 = .int .i64 (skip L z) := hs 9 (by decide) (by decide)
    have s_10 : v 10 = .pointer (some ⟨w.heap.size, 4, none⟩) := hs 10 (by decide) (by decide)
    have s_11 : v 11 = .slice aa L.length cap := hs 11 (by decide) (by decide)
    have s_12 : v 12 = .int .i64 z := hs 12 (by decide) (by decide)
    simp only [putAll, dstOf]
    have HK3 : Hid (Below V.heap.size V u) := Lib.hid (HK2.out.trans (hu.mono HK2.out.size))
    clear hs hap hu HK2
    refine rest_line' 13 16 (by kernel_rfl) (by decide) (by decide) (by kernel_rfl) ?_
    simp only [List.drop_succ_cons, List.drop_zero, Nat.reduceSub, List.take_succ_cons, List.take_zero]
    go_wp2_with (go_at_call 28; refine (ref_skip L z _ _ (HVa.out _ HK3.out) (by omega)).mono ?_; rintro e w5 ⟨rfl, hb5⟩)
    have HK4 : Hid (Below V.heap.size V w5) := Lib.hid (HK3.out.trans (hb5.mono HK3.out.size))
    clear hb5 s_5 s_6 s_7 s_8 s_9 s_10 s_11 s_12 HK3
    clear v
    generalize w5 = W0 at *
    refine then_rest ?_
    refine rest_ops 16 20 36 (fun j v u => match j with | 16 => v = .bool true | 17 => v = codVal ⟨nm, ar, sl, bo, L⟩ (.slice xa L.length xcap) | 18 => IsCod ⟨nm, ar, sl, bo, L⟩ v u | 19 => v = codVal ⟨nm, ar, sl, bo, L⟩ (.slice aa L.length cap) | _ => True) (fun _ _ => none) (by kernel_rfl) (by kernel_rfl) rfl (.inr (by kernel_rfl)) ?hS ?hop ?_
    case hS =>
      intro j v u u' hkj hjn h hb
      match j, hkj, hjn, h with
      | 16, _, _, h => exact h
      | 17, _, _, h => exact h
      | 18, _, _, h => exact h.below hb
      | 19, _, _, h => exact h
      | q + 20, _, hq, _ => exact absurd hq (by omega)
    case hop =>
      refine ⟨fun v u hu hs Q' hQ => ?_, fun v u hu hs Q' hQ => ?_, fun v u hu hs Q' hQ => ?_, fun v u hu hs Q' hQ => ?_, trivial⟩
      · simp only [putAll, dstOf]
        have hK := HK4.out.trans (hu.mono HK4.out.size)
        have x := row5 (HVx.out u hK)
        have x0 := x.1
        have x1 := x.2.1
        have x2 := x.2.2.1
        have x3 := x.2.2.2.1
        have x4 := x.2.2.2.2
        have y := row5 (HVc.out u hK)
        have y0 := y.1
        have y1 := y.2.1
        have y2 := y.2.2.1
        have y3 := y.2.2.2.1
        have y4 := y.2.2.2.2
        clear x y
        go_wp2
        exact ⟨rfl, Below.refl _ _, rfl, fun _ h => nomatch h⟩
      · simp only [putAll, dstOf]
        have s_16 : v 16 = .bool true := hs 16 (by kernel_rfl) (by decide) (by decide)
        have hK := HK4.out.trans (hu.mono HK4.out.size)
        have x := row5 (HVx.out u hK)
        have x0 := x.1
        have x1 := x.2.1
        have x2 := x.2.2.1
        have x3 := x.2.2.2.1
        have x4 := x.2.2.2.2
        have y := row5 (HVc.out u hK)
        have y0 := y.1
        have y1 := y.2.1
        have y2 := y.2.2.1
        have y3 := y.2.2.2.1
        have y4 := y.2.2.2.2
        clear x y
        go_wp2
        exact ⟨rfl, Below.refl _ _, rfl, fun _ h => nomatch h⟩
      · simp only [putAll, dstOf]
        have s_16 : v 16 = .bool true := hs 16 (by kernel_rfl) (by decide) (by decide)
        have s_17 : v 17 = codVal ⟨nm, ar, sl, bo, L⟩ (.slice xa L.length xcap) := hs 17 (by kernel_rfl) (by decide) (by decide)
        have hK := HK4.out.trans (hu.mono HK4.out.size)
        have x := row5 (HVx.out u hK)
        have x0 := x.1
        have x1 := x.2.1
        have x2 := x.2.2.1
        have x3 := x.2.2.2.1
        have x4 := x.2.2.2.2
        have y := row5 (HVc.out u hK)
        have y0 := y.1
        have y1 := y.2.1
        have y2 := y.2.2.1
        have y3 := y.2.2.2.1
        have y4 := y.2.2.2.2
        clear x y
        go_wp2_with (go_at_call 30; refine (from_any ⟨nm, ar, sl, bo, L⟩ _ _ (HVs.out u hK) (by dsimp only; omega)).mono ?_; rintro e w6 ⟨vf, rfl, hvf, hb6⟩)
        exact ⟨rfl, hb6, ⟨vf, rfl, hvf⟩, fun _ h => nomatch h⟩
      · simp only [putAll, dstOf]
        have s_16 : v 16 = .bool true := hs 16 (by kernel_rfl) (by decide) (by decide)
        have hK := HK4.out.trans (hu.mono HK4.out.size)
        have x := row5 (HVx.out u hK)
        have x0 := x.1
        have x1 := x.2.1
        have x2 := x.2.2.1
        have x3 := x.2.2.2.1
        have x4 := x.2.2.2.2
        have y := row5 (HVc.out u hK)
        have y0 := y.1
        have y1 := y.2.1
        have y2 := y.2.2.1
        have y3 := y.2.2.2.1
        have y4 := y.2.2.2.2
        clear x y
        go_wp2
        exact ⟨rfl, Below.refl _ _, rfl, fun _ h => nomatch h⟩
    intro v u hu hs hap
    have s_16 : v 16 = .bool true := hs 16 (by decide) (by decide)
    have s_17 : v 17 = codVal ⟨nm, ar, sl, bo, L⟩ (.slice xa L.length xcap) := hs 17 (by decide) (by decide)
    have s_18 : IsCod ⟨nm, ar, sl, bo, L⟩ (v 18) u := hs 18 (by decide) (by decide)
    have s_19 : v 19 = codVal ⟨nm, ar, sl, bo, L⟩ (.slice aa L.length cap) := hs 19 (by decide) (by decide)
    simp only [putAll, dstOf]
    obtain ⟨vf, s_18', hvf⟩ := s_18
    have HF := Lib.hid hvf
    have HK5 : Hid (Below V.heap.size V u) := Lib.hid (HK4.out.trans (hu.mono HK4.out.size))
    clear hs hap hu HK4 hvf
    refine rest_line' 20 23 (by kernel_rfl) (by decide) (by decide) (by kernel_rfl) ?_
    simp only [List.drop_succ_cons, List.drop_zero, Nat.reduceSub, List.take_succ_cons, List.take_zero]
    go_wp2_with (go_at_call 29; refine (ref_same ⟨nm, ar, sl, bo, L⟩ _ _ _ HF.out (HVa.out _ HK5.out) (by dsimp only; omega)).mono ?_; rintro e w7 ⟨rfl, hb7⟩)
    refine then_rest (rest_end (by decide) ?_)
    go_wp2
    go_ret
    exact says rfl (HVw.out _ (HK5.out.trans (hb7.mono HK5.out.size)))
end Go.Proofs.Ytlndoogiflcoeaa.Cod
