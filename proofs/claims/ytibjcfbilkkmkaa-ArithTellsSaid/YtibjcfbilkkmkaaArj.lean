
/-
  Layer 12: ArithTells, walked over the program (printed by gen_arj.py).
-/
import Derived.Test.YtibjcfbilkkmkaaAri
namespace Go.Proofs.Ytibjcfbilkkmkaa.Tms
open Go Go.RowKit Go.Proofs.Ytibjcfbilkkmkaa.Reg Go.Proofs.Ytibjcfbilkkmkaa.Maps Go.Proofs.Ytibjcfbilkkmkaa.Num
set_option linter.unusedVariables false
set_option linter.unusedSimpArgs false

theorem row6 {w : World} {g : Nat} {y0 y1 y2 y3 y4 y5 : Value} {T : TypeId} {fr : Nat × Nat} (h : w.heap[g]? = some (.cells #[y0, y1, y2, y3, y4, y5] T fr)) :
    w.cell? ⟨g, 0, none⟩ = some y0 ∧ w.cell? ⟨g, 1, none⟩ = some y1 ∧ w.cell? ⟨g, 2, none⟩ = some y2 ∧ w.cell? ⟨g, 3, none⟩ = some y3 ∧ w.cell? ⟨g, 4, none⟩ = some y4 ∧ w.cell? ⟨g, 5, none⟩ = some y5 :=
  ⟨by simpa using cell_of_row w g 0 _ T fr h, by simpa using cell_of_row w g 1 _ T fr h, by simpa using cell_of_row w g 2 _ T fr h, by simpa using cell_of_row w g 3 _ T fr h, by simpa using cell_of_row w g 4 _ T fr h, by simpa using cell_of_row w g 5 _ T fr h⟩
theorem ix6_0 (x0 x1 x2 x3 x4 x5 : Value) (w : World) : (Instr.index 64 (.agg #[x0, x1, x2, x3, x4, x5]) (.int .i64 0)).run Try.prog w = .ok x0 w := by kernel_rfl
theorem ix6_1 (x0 x1 x2 x3 x4 x5 : Value) (w : World) : (Instr.index 64 (.agg #[x0, x1, x2, x3, x4, x5]) (.int .i64 1)).run Try.prog w = .ok x1 w := by kernel_rfl
theorem ix6_2 (x0 x1 x2 x3 x4 x5 : Value) (w : World) : (Instr.index 64 (.agg #[x0, x1, x2, x3, x4, x5]) (.int .i64 2)).run Try.prog w = .ok x2 w := by kernel_rfl
theorem ix6_3 (x0 x1 x2 x3 x4 x5 : Value) (w : World) : (Instr.index 64 (.agg #[x0, x1, x2, x3, x4, x5]) (.int .i64 3)).run Try.prog w = .ok x3 w := by kernel_rfl
theorem ix6_4 (x0 x1 x2 x3 x4 x5 : Value) (w : World) : (Instr.index 64 (.agg #[x0, x1, x2, x3, x4, x5]) (.int .i64 4)).run Try.prog w = .ok x4 w := by kernel_rfl
theorem ix6_5 (x0 x1 x2 x3 x4 x5 : Value) (w : World) : (Instr.index 64 (.agg #[x0, x1, x2, x3, x4, x5]) (.int .i64 5)).run Try.prog w = .ok x5 w := by kernel_rfl
theorem hop_0 : ¬ holdB (⟨#[60]⟩ : ByteArray) 0 0 = none := by decide
theorem hop_1 : ¬ holdB (⟨#[61, 58, 61]⟩ : ByteArray) 0 0 = none := by decide
theorem hop_2 : ¬ holdB (⟨#[62]⟩ : ByteArray) 0 0 = none := by decide
theorem hop_3 : ¬ holdB (⟨#[61, 60]⟩ : ByteArray) 0 0 = none := by decide
theorem hop_4 : ¬ holdB (⟨#[62, 61]⟩ : ByteArray) 0 0 = none := by decide
theorem hop_5 : ¬ holdB (⟨#[61, 92, 61]⟩ : ByteArray) 0 0 = none := by decide
section
variable {op : ByteArray} {A B tA tB : Tm} {nA nB eA eB : Int}
theorem holds_bad1 (h : ¬ holdB op 0 0 = none) (ha : evalT A = (nA, eA, tA)) (he : eA ≠ 0) : holdsT op A B = (false, eA, tA) := by
  unfold holdsT; rw [if_neg h, ha, if_pos he]
theorem holds_bad2 (h : ¬ holdB op 0 0 = none) (ha : evalT A = (nA, 0, tA)) (hb : evalT B = (nB, eB, tB)) (he : eB ≠ 0) : holdsT op A B = (false, eB, tB) := by
  unfold holdsT; rw [if_neg h, ha, if_neg (by simp), hb, if_pos he]
theorem holds_good (h : ¬ holdB op 0 0 = none) (ha : evalT A = (nA, 0, tA)) (hb : evalT B = (nB, 0, tB)) : holdsT op A B = ((holdB op nA nB).getD false, 0, zT) := by
  unfold holdsT; rw [if_neg h, ha, if_neg (by simp), hb, if_neg (by simp)]
end
theorem hd_a0 {nA nB : Int} (h : nA < nB) : (holdB (⟨#[60]⟩ : ByteArray) nA nB).getD false = true := by
  show decide _ = _
  simp only [decide_eq_true_eq, decide_eq_false_iff_not]; omega
theorem hd_a1 {nA nB : Int} (h : nA < nB) : (holdB (⟨#[61, 58, 61]⟩ : ByteArray) nA nB).getD false = false := by
  show decide _ = _
  simp only [decide_eq_true_eq, decide_eq_false_iff_not]; omega
theorem hd_a2 {nA nB : Int} (h : nA < nB) : (holdB (⟨#[62]⟩ : ByteArray) nA nB).getD false = false := by
  show decide _ = _
  simp only [decide_eq_true_eq, decide_eq_false_iff_not]; omega
theorem hd_a3 {nA nB : Int} (h : nA < nB) : (holdB (⟨#[61, 60]⟩ : ByteArray) nA nB).getD false = true := by
  show decide _ = _
  simp only [decide_eq_true_eq, decide_eq_false_iff_not]; omega
theorem hd_a4 {nA nB : Int} (h : nA < nB) : (holdB (⟨#[62, 61]⟩ : ByteArray) nA nB).getD false = false := by
  show decide _ = _
  simp only [decide_eq_true_eq, decide_eq_false_iff_not]; omega
theorem hd_a5 {nA nB : Int} (h : nA < nB) : (holdB (⟨#[61, 92, 61]⟩ : ByteArray) nA nB).getD false = true := by
  show decide _ = _
  simp only [decide_eq_true_eq, decide_eq_false_iff_not]; omega
theorem hd_b0 {nA nB : Int} (h : nA = nB) : (holdB (⟨#[60]⟩ : ByteArray) nA nB).getD false = false := by
  show decide _ = _
  simp only [decide_eq_true_eq, decide_eq_false_iff_not]; omega
theorem hd_b1 {nA nB : Int} (h : nA = nB) : (holdB (⟨#[61, 58, 61]⟩ : ByteArray) nA nB).getD false = true := by
  show decide _ = _
  simp only [decide_eq_true_eq, decide_eq_false_iff_not]; omega
theorem hd_b2 {nA nB : Int} (h : nA = nB) : (holdB (⟨#[62]⟩ : ByteArray) nA nB).getD false = false := by
  show decide _ = _
  simp only [decide_eq_true_eq, decide_eq_false_iff_not]; omega
theorem hd_b3 {nA nB : Int} (h : nA = nB) : (holdB (⟨#[61, 60]⟩ : ByteArray) nA nB).getD false = true := by
  show decide _ = _
  simp only [decide_eq_true_eq, decide_eq_false_iff_not]; omega
theorem hd_b4 {nA nB : Int} (h : nA = nB) : (holdB (⟨#[62, 61]⟩ : ByteArray) nA nB).getD false = true := by
  show decide _ = _
  simp only [decide_eq_true_eq, decide_eq_false_iff_not]; omega
theorem hd_b5 {nA nB : Int} (h : nA = nB) : (holdB (⟨#[61, 92, 61]⟩ : ByteArray) nA nB).getD false = false := by
  show decide _ = _
  simp only [decide_eq_true_eq, decide_eq_false_iff_not]; omega
theorem hd_c0 {nA nB : Int} (h : nB < nA) : (holdB (⟨#[60]⟩ : ByteArray) nA nB).getD false = false := by
  show decide _ = _
  simp only [decide_eq_true_eq, decide_eq_false_iff_not]; omega
theorem hd_c1 {nA nB : Int} (h : nB < nA) : (holdB (⟨#[61, 58, 61]⟩ : ByteArray) nA nB).getD false = false := by
  show decide _ = _
  simp only [decide_eq_true_eq, decide_eq_false_iff_not]; omega
theorem hd_c2 {nA nB : Int} (h : nB < nA) : (holdB (⟨#[62]⟩ : ByteArray) nA nB).getD false = true := by
  show decide _ = _
  simp only [decide_eq_true_eq, decide_eq_false_iff_not]; omega
theorem hd_c3 {nA nB : Int} (h : nB < nA) : (holdB (⟨#[61, 60]⟩ : ByteArray) nA nB).getD false = false := by
  show decide _ = _
  simp only [decide_eq_true_eq, decide_eq_false_iff_not]; omega
theorem hd_c4 {nA nB : Int} (h : nB < nA) : (holdB (⟨#[62, 61]⟩ : ByteArray) nA nB).getD false = true := by
  show decide _ = _
  simp only [decide_eq_true_eq, decide_eq_false_iff_not]; omega
theorem hd_c5 {nA nB : Int} (h : nB < nA) : (holdB (⟨#[61, 92, 61]⟩ : ByteArray) nA nB).getD false = true := by
  show decide _ = _
  simp only [decide_eq_true_eq, decide_eq_false_iff_not]; omega
set_option maxRecDepth 100000 in
set_option maxHeartbeats 4000000 in
theorem law_tells (L M : List Pt) (v1 v2 : Value) (w : World) (h1 : PtSl w v1 L) (h2 : PtSl w v2 M) (f1 : ∀ p ∈ L, Fit p.n) (f2 : ∀ p ∈ M, Fit p.n) : Calls Try.prog 6 #[v1, v2] w (Says true w) := by
  obtain ⟨a1, c1, rfl, hc1, hm1⟩ := h1.form
  obtain ⟨a2, c2, rfl, hc2, hm2⟩ := h2.form
  have H1 := Lib.hid h1
  have H2 := Lib.hid h2
  have F1 := Lib.hid (good_fit f1)
  have F2 := Lib.hid (good_fit f2)
  clear h1 h2 f1 f2
  by_cases g1 : 60 < L.length
  · have d1 : decide (60 < (L.length : Int)) = true := by simp; omega
    go_enter Try.func6, Try.ntmps6
    go_wp2_with (first
      | (go_at_call 19; refine (l12_alive _).mono ?_; rintro e1 w1 ⟨rfl, hb1⟩; have HB := Lib.hid hb1; clear hb1)
      | (go_at_call 8; refine (ref_great L _ _ (H1.out.below HB.out)).mono ?_; rintro e2 w2 ⟨rfl, rfl⟩))
    go_ret
    exact ⟨rfl, HB.out⟩
  have d1 : decide (60 < (L.length : Int)) = false := by simp; omega
  by_cases g2 : 60 < M.length
  · have d2 : decide (60 < (M.length : Int)) = true := by simp; omega
    go_enter Try.func6, Try.ntmps6
    go_wp2_with fail
    refine (l12_alive _).mono ?_; rintro e1 w1 ⟨rfl, hb1⟩; have HB := Lib.hid hb1; clear hb1
    go_wp2_with fail
    refine (ref_great L _ _ (H1.out.below HB.out)).mono ?_; rintro e2 w2 ⟨rfl, rfl⟩
    go_wp2_with fail
    refine (ref_great M _ _ (H2.out.below HB.out)).mono ?_; rintro e2 w2 ⟨rfl, rfl⟩
    go_wp2
    go_ret
    exact ⟨rfl, HB.out⟩
  have d2 : decide (60 < (M.length : Int)) = false := by simp; omega
  have SA := goodT_size L
  have SB := goodT_size M
  replace SA : (goodT L).size ≤ 900 := by omega
  replace SB : (goodT M).size ≤ 900 := by omega
  go_enter Try.func6, Try.ntmps6
  go_wp2_with fail
  refine (l12_alive _).mono ?_; rintro e1 w1 ⟨rfl, hb1⟩; have HB := Lib.hid hb1; clear hb1
  go_wp2_with fail
  refine (ref_great L _ _ (H1.out.below HB.out)).mono ?_; rintro e2 w2 ⟨rfl, rfl⟩
  go_wp2_with fail
  refine (ref_great M _ _ (H2.out.below HB.out)).mono ?_; rintro e2 w2 ⟨rfl, rfl⟩
  go_wp2_with fail
  refine (good_any L _ _ (by omega) (H1.out.below HB.out)).mono ?_
  rintro e3 w3 ⟨v3, rfl, hi3, hb3⟩
  replace HB := Lib.hid (HB.out.trans (hb3.mono HB.out.size))
  have HA := Lib.hid hi3
  clear hi3 hb3 H1
  generalize goodT L = A at *
  obtain ⟨aA, cA, rfl⟩ := HA.out.form
  go_wp2_with fail
  refine (good_any M _ _ (by omega) (H2.out.below HB.out)).mono ?_
  rintro e4 w4 ⟨v4, rfl, hi4, hb4⟩
  replace HB := Lib.hid (HB.out.trans (hb4.mono HB.out.size))
  replace HA := Lib.hid (HA.out.below hb4)
  have HC := Lib.hid hi4
  clear hi4 hb4 H2
  generalize goodT M = B at *
  obtain ⟨aC, cC, rfl⟩ := HC.out.form
  go_upto_region 6 with fail
  obtain ⟨t0, t1, tsz, tbl⟩ := two w4 (.cells #[.int .i64 A.k, .int .i64 A.n, .string A.s, .slice aA A.args.length cA] 30 (0, 0)) (.cells #[.int .i64 B.k, .int .i64 B.n, .string B.s, .slice aC B.args.length cC] 30 (0, 0))
  have HR1 := Lib.hid t0
  have HR2 := Lib.hid t1
  replace HA := Lib.hid (HA.out.below tbl)
  replace HC := Lib.hid (HC.out.below tbl)
  replace HB := Lib.hid (HB.out.trans (tbl.mono HB.out.size))
  clear t0 t1 tsz tbl
  generalize (w4.alloc (.cells #[.int .i64 A.k, .int .i64 A.n, .string A.s, .slice aA A.args.length cA] 30 (0, 0))).alloc (.cells #[.int .i64 B.k, .int .i64 B.n, .string B.s, .slice aC B.args.length cC] 30 (0, 0)) = W at *
  obtain ⟨x0, x1, x2, x3⟩ := row4 HR1.out
  have hts1 := eval_tsize A
  have hts2 := eval_tsize B
  go_wp2_with fail
  clear x0 x1 x2 x3
  refine (go_EvalA A _ _ (by omega) F1.out HA.out).mono ?_
  rintro ew5 w5 ⟨vw5, rfl, hiq, hbq⟩
  replace HR1 := Lib.hid (row_on HR1.out hbq)
  replace HR2 := Lib.hid (row_on HR2.out hbq)
  replace HA := Lib.hid (HA.out.below hbq)
  replace HC := Lib.hid (HC.out.below hbq)
  replace HB := Lib.hid (HB.out.trans (hbq.mono HB.out.size))
  generalize heA : evalT A = rA at hiq ⊢
  obtain ⟨qH5, rfl, hiq⟩ := hiq
  obtain ⟨nA, eA, tA⟩ := rA
  simp only at hiq ⊢
  have H5 := Lib.hid hiq
  clear hiq hbq
  obtain ⟨aH5, cH5, rfl⟩ := H5.out.form
  rw [heA] at hts1
  simp only at hts1
  go_upto_region 7 with fail
  have hbq := below_new w5 (.cells #[.int .i64 tA.k, .int .i64 tA.n, .string tA.s, .slice aH5 tA.args.length cH5] 30 (0, 0))
  have hq := heap_alloc_new w5 (.cells #[.int .i64 tA.k, .int .i64 tA.n, .string tA.s, .slice aH5 tA.args.length cH5] 30 (0, 0))
  have hzq : w5.heap.size < (w5.alloc (.cells #[.int .i64 tA.k, .int .i64 tA.n, .string tA.s, .slice aH5 tA.args.length cH5] 30 (0, 0))).heap.size := by simp
  replace HR1 := Lib.hid (row_on HR1.out hbq)
  replace HR2 := Lib.hid (row_on HR2.out hbq)
  replace HA := Lib.hid (HA.out.below hbq)
  replace HC := Lib.hid (HC.out.below hbq)
  replace H5 := Lib.hid (H5.out.below hbq)
  replace HB := Lib.hid (HB.out.trans (hbq.mono HB.out.size))
  clear hbq hq
  generalize w5.alloc (.cells #[.int .i64 tA.k, .int .i64 tA.n, .string tA.s, .slice aH5 tA.args.length cH5] 30 (0, 0)) = W5 at *
  clear H5
  obtain ⟨x0, x1, x2, x3⟩ := row4 HR2.out
  have HEA := Lib.hid heA
  clear heA
  go_wp2_with fail
  clear x0 x1 x2 x3
  refine (go_EvalA B _ _ (by omega) F2.out HC.out).mono ?_
  rintro ew6 w6 ⟨vw6, rfl, hiq, hbq⟩
  replace HR1 := Lib.hid (row_on HR1.out hbq)
  replace HR2 := Lib.hid (row_on HR2.out hbq)
  replace HA := Lib.hid (HA.out.below hbq)
  replace HC := Lib.hid (HC.out.below hbq)
  replace HB := Lib.hid (HB.out.trans (hbq.mono HB.out.size))
  generalize heB : evalT B = rB at hiq ⊢
  obtain ⟨qH6, rfl, hiq⟩ := hiq
  obtain ⟨nB, eB, tB⟩ := rB
  simp only at hiq ⊢
  have H6 := Lib.hid hiq
  clear hiq hbq
  obtain ⟨aH6, cH6, rfl⟩ := H6.out.form
  rw [heB] at hts2
  simp only at hts2
  go_upto_region 8 with fail
  have hbq := below_new w6 (.cells #[.int .i64 tB.k, .int .i64 tB.n, .string tB.s, .slice aH6 tB.args.length cH6] 30 (0, 0))
  have hq := heap_alloc_new w6 (.cells #[.int .i64 tB.k, .int .i64 tB.n, .string tB.s, .slice aH6 tB.args.length cH6] 30 (0, 0))
  have hzq : w6.heap.size < (w6.alloc (.cells #[.int .i64 tB.k, .int .i64 tB.n, .string tB.s, .slice aH6 tB.args.length cH6] 30 (0, 0))).heap.size := by simp
  replace HR1 := Lib.hid (row_on HR1.out hbq)
  replace HR2 := Lib.hid (row_on HR2.out hbq)
  replace HA := Lib.hid (HA.out.below hbq)
  replace HC := Lib.hid (HC.out.below hbq)
  replace H6 := Lib.hid (H6.out.below hbq)
  replace HB := Lib.hid (HB.out.trans (hbq.mono HB.out.size))
  clear hbq hq
  generalize w6.alloc (.cells #[.int .i64 tB.k, .int .i64 tB.n, .string tB.s, .slice aH6 tB.args.length cH6] 30 (0, 0)) = W6 at *
  clear H6
  have HEB := Lib.hid heB
  clear heB
  have hbq := below_new W6 (.cells #[.bool false, .bool false, .bool false, .bool false, .bool false, .bool false] 63 (0, 0))
  have hq := heap_alloc_new W6 (.cells #[.bool false, .bool false, .bool false, .bool false, .bool false, .bool false] 63 (0, 0))
  replace HA := Lib.hid (HA.out.low.imp (fun b h => (h.2 : b < W6.heap.size)) fun _ _ _ => rfl)
  replace HC := Lib.hid (HC.out.low.imp (fun b h => (h.2 : b < W6.heap.size)) fun _ _ _ => rfl)
  have hl1 := (Array.getElem?_eq_some_iff.1 HR1.out).1
  have hl2 := (Array.getElem?_eq_some_iff.1 HR2.out).1
  have hgw := HB.out.size
  go_upto_region 9 with fail
  replace HR1 := Lib.hid (row_on HR1.out hbq)
  replace HR2 := Lib.hid (row_on HR2.out hbq)
  replace HA := Lib.hid (HA.out.below hbq)
  replace HC := Lib.hid (HC.out.below hbq)
  replace HB := Lib.hid (HB.out.trans (hbq.mono HB.out.size))
  have HI := Lib.hid hq
  clear hbq hq
  skip
  generalize hW7 : W6.alloc (.cells #[.bool false, .bool false, .bool false, .bool false, .bool false, .bool false] 63 (0, 0)) = W7 at *
  have hgi : W6.heap.size < W7.heap.size := by rw [← hW7]; simp
  clear hW7
  generalize W6.heap.size = gi at *
  go_wp2_with fail
  refine wp_loop_rounds 7 ?_
  by_cases hA0 : eA = 0
  case neg =>
    have pe : (eA != 0) = true := by simpa using hA0
    have pe2 : (eA == 0) = false := by simpa using hA0
    have pq : (eA != eA) = false := by simp
    have HA0 := Lib.hid hA0
    clear hA0
    rw [rounds_succ]
    obtain ⟨x0, x1, x2, x3⟩ := row4 HR1.out
    obtain ⟨y0, y1, y2, y3⟩ := row4 HR2.out
    have ix := ix6_0 (.string (⟨#[60]⟩ : ByteArray)) (.string (⟨#[61, 58, 61]⟩ : ByteArray)) (.string (⟨#[62]⟩ : ByteArray)) (.string (⟨#[61, 60]⟩ : ByteArray)) (.string (⟨#[62, 61]⟩ : ByteArray)) (.string (⟨#[61, 92, 61]⟩ : ByteArray))
    have HR : Hid (holdsT (⟨#[60]⟩ : ByteArray) A B = (false, eA, tA)) := Lib.hid (holds_bad1 hop_0 HEA.out HA0.out)
    go_wp2_with fail
    clear ix
    clear x0 x1 x2 x3 y0 y1 y2 y3
    refine (go_HoldsA (⟨#[60]⟩ : ByteArray) A B _ _ _ (by omega) (by omega) F1.out F2.out HA.out.any HC.out.any).mono ?_
    rintro e0 wa0 ⟨v0, rfl, hiq, hbq⟩
    replace HR1 := Lib.hid (row_on HR1.out hbq)
    replace HR2 := Lib.hid (row_on HR2.out hbq)
    replace HI := Lib.hid (row_on HI.out hbq)
    replace HA := Lib.hid (HA.out.below hbq)
    replace HC := Lib.hid (HC.out.below hbq)
    replace HB := Lib.hid (HB.out.trans (hbq.mono HB.out.size))
    rw [HR.out] at hiq
    obtain ⟨q0, rfl, hiq⟩ := hiq
    simp only at hiq ⊢
    obtain ⟨az0, cz0, rfl⟩ := hiq.form
    clear hiq hbq HR
    go_upto_region 13 with fail
    have hbq := below_new wa0 (.cells #[.int .i64 tA.k, .int .i64 tA.n, .string tA.s, .slice az0 tA.args.length cz0] 30 (0, 0))
    have hq := heap_alloc_new wa0 (.cells #[.int .i64 tA.k, .int .i64 tA.n, .string tA.s, .slice az0 tA.args.length cz0] 30 (0, 0))
    have hzq : wa0.heap.size < (wa0.alloc (.cells #[.int .i64 tA.k, .int .i64 tA.n, .string tA.s, .slice az0 tA.args.length cz0] 30 (0, 0))).heap.size := by simp
    replace HR1 := Lib.hid (row_on HR1.out hbq)
    replace HR2 := Lib.hid (row_on HR2.out hbq)
    replace HI := Lib.hid (row_on HI.out hbq)
    replace HA := Lib.hid (HA.out.below hbq)
    replace HC := Lib.hid (HC.out.below hbq)
    replace HB := Lib.hid (HB.out.trans (hbq.mono HB.out.size))
    clear hbq hq
    generalize wa0.alloc (.cells #[.int .i64 tA.k, .int .i64 tA.n, .string tA.s, .slice az0 tA.args.length cz0] 30 (0, 0)) = wb0 at *
    obtain ⟨z0, z1, z2, z3, z4, z5⟩ := row6 HI.out
    have f0 := frozen_of_row _ gi 0 _ _ HI.out
    have HI2 : Hid ((wb0.setCell ⟨gi, 0, none⟩ (.bool false)).heap[gi]? = some (.cells #[.bool false, .bool false, .bool false, .bool false, .bool false, .bool false] 63 (0, 0))) := Lib.hid (by simpa using heap_setCell_same wb0 gi 0 _ _ (.bool false) HI.out)
    have HB2 : Hid (Below w.heap.size w (wb0.setCell ⟨gi, 0, none⟩ (.bool false))) := Lib.hid (HB.out.setCell (by omega) _)
    have HR1b : Hid ((wb0.setCell ⟨gi, 0, none⟩ (.bool false)).heap[_]? = some _) := Lib.hid ((Below.heap_setCell _ _ _ _ (by show ¬ (_ = gi); omega)).trans HR1.out)
    have HR2b : Hid ((wb0.setCell ⟨gi, 0, none⟩ (.bool false)).heap[_]? = some _) := Lib.hid ((Below.heap_setCell _ _ _ _ (by show ¬ (_ = gi); omega)).trans HR2.out)
    have HAb := Lib.hid (HA.out.imp (w' := (wb0.setCell ⟨gi, 0, none⟩ (.bool false))) (fun _ h => h) fun b hh _ => Below.heap_setCell _ _ _ _ (by show ¬ (b = gi); omega))
    have HCb := Lib.hid (HC.out.imp (w' := (wb0.setCell ⟨gi, 0, none⟩ (.bool false))) (fun _ h => h) fun b hh _ => Below.heap_setCell _ _ _ _ (by show ¬ (b = gi); omega))
    have hsz : (wb0.setCell ⟨gi, 0, none⟩ (.bool false)).heap.size = wb0.heap.size := by simp [World.setCell]
    have HSZ := Lib.hid hsz
    clear hsz
    go_wp2_with fail
    clear z0 z1 z2 z3 z4 z5 f0 HI HB HR1 HR2 HA HC
    generalize wb0.setCell ⟨gi, 0, none⟩ (.bool false) = wc0 at *
    clear HSZ
    have HI := HI2
    have HB := HB2
    have HR1 := HR1b
    have HR2 := HR2b
    have HA := HAb
    have HC := HCb
    clear HI2 HB2 HR1b HR2b HAb HCb
    rw [rounds_succ]
    obtain ⟨x0, x1, x2, x3⟩ := row4 HR1.out
    obtain ⟨y0, y1, y2, y3⟩ := row4 HR2.out
    have ix := ix6_1 (.string (⟨#[60]⟩ : ByteArray)) (.string (⟨#[61, 58, 61]⟩ : ByteArray)) (.string (⟨#[62]⟩ : ByteArray)) (.string (⟨#[61, 60]⟩ : ByteArray)) (.string (⟨#[62, 61]⟩ : ByteArray)) (.string (⟨#[61, 92, 61]⟩ : ByteArray))
    have HR : Hid (holdsT (⟨#[61, 58, 61]⟩ : ByteArray) A B = (false, eA, tA)) := Lib.hid (holds_bad1 hop_1 HEA.out HA0.out)
    go_wp2_with fail
    clear ix
    clear x0 x1 x2 x3 y0 y1 y2 y3
    refine (go_HoldsA (⟨#[61, 58, 61]⟩ : ByteArray) A B _ _ _ (by omega) (by omega) F1.out F2.out HA.out.any HC.out.any).mono ?_
    rintro e1 wa1 ⟨v1, rfl, hiq, hbq⟩
    replace HR1 := Lib.hid (row_on HR1.out hbq)
    replace HR2 := Lib.hid (row_on HR2.out hbq)
    replace HI := Lib.hid (row_on HI.out hbq)
    replace HA := Lib.hid (HA.out.below hbq)
    replace HC := Lib.hid (HC.out.below hbq)
    replace HB := Lib.hid (HB.out.trans (hbq.mono HB.out.size))
    rw [HR.out] at hiq
    obtain ⟨q1, rfl, hiq⟩ := hiq
    simp only at hiq ⊢
    obtain ⟨az1, cz1, rfl⟩ := hiq.form
    clear hiq hbq HR
    go_upto_region 13 with fail
    have hbq := below_new wa1 (.cells #[.int .i64 tA.k, .int .i64 tA.n, .string tA.s, .slice az1 tA.args.length cz1] 30 (0, 0))
    have hq := heap_alloc_new wa1 (.cells #[.int .i64 tA.k, .int .i64 tA.n, .string tA.s, .slice az1 tA.args.length cz1] 30 (0, 0))
    have hzq : wa1.heap.size < (wa1.alloc (.cells #[.int .i64 tA.k, .int .i64 tA.n, .string tA.s, .slice az1 tA.args.length cz1] 30 (0, 0))).heap.size := by simp
    replace HR1 := Lib.hid (row_on HR1.out hbq)
    replace HR2 := Lib.hid (row_on HR2.out hbq)
    replace HI := Lib.hid (row_on HI.out hbq)
    replace HA := Lib.hid (HA.out.below hbq)
    replace HC := Lib.hid (HC.out.below hbq)
    replace HB := Lib.hid (HB.out.trans (hbq.mono HB.out.size))
    clear hbq hq
    generalize wa1.alloc (.cells #[.int .i64 tA.k, .int .i64 tA.n, .string tA.s, .slice az1 tA.args.length cz1] 30 (0, 0)) = wb1 at *
    obtain ⟨z0, z1, z2, z3, z4, z5⟩ := row6 HI.out
    have f1 := frozen_of_row _ gi 1 _ _ HI.out
    have HI2 : Hid ((wb1.setCell ⟨gi, 1, none⟩ (.bool false)).heap[gi]? = some (.cells #[.bool false, .bool false, .bool false, .bool false, .bool false, .bool false] 63 (0, 0))) := Lib.hid (by simpa using heap_setCell_same wb1 gi 1 _ _ (.bool false) HI.out)
    have HB2 : Hid (Below w.heap.size w (wb1.setCell ⟨gi, 1, none⟩ (.bool false))) := Lib.hid (HB.out.setCell (by omega) _)
    have HR1b : Hid ((wb1.setCell ⟨gi, 1, none⟩ (.bool false)).heap[_]? = some _) := Lib.hid ((Below.heap_setCell _ _ _ _ (by show ¬ (_ = gi); omega)).trans HR1.out)
    have HR2b : Hid ((wb1.setCell ⟨gi, 1, none⟩ (.bool false)).heap[_]? = some _) := Lib.hid ((Below.heap_setCell _ _ _ _ (by show ¬ (_ = gi); omega)).trans HR2.out)
    have HAb := Lib.hid (HA.out.imp (w' := (wb1.setCell ⟨gi, 1, none⟩ (.bool false))) (fun _ h => h) fun b hh _ => Below.heap_setCell _ _ _ _ (by show ¬ (b = gi); omega))
    have HCb := Lib.hid (HC.out.imp (w' := (wb1.setCell ⟨gi, 1, none⟩ (.bool false))) (fun _ h => h) fun b hh _ => Below.heap_setCell _ _ _ _ (by show ¬ (b = gi); omega))
    have hsz : (wb1.setCell ⟨gi, 1, none⟩ (.bool false)).heap.size = wb1.heap.size := by simp [World.setCell]
    have HSZ := Lib.hid hsz
    clear hsz
    go_wp2_with fail
    clear z0 z1 z2 z3 z4 z5 f1 HI HB HR1 HR2 HA HC
    generalize wb1.setCell ⟨gi, 1, none⟩ (.bool false) = wc1 at *
    clear HSZ
    have HI := HI2
    have HB := HB2
    have HR1 := HR1b
    have HR2 := HR2b
    have HA := HAb
    have HC := HCb
    clear HI2 HB2 HR1b HR2b HAb HCb
    rw [rounds_succ]
    obtain ⟨x0, x1, x2, x3⟩ := row4 HR1.out
    obtain ⟨y0, y1, y2, y3⟩ := row4 HR2.out
    have ix := ix6_2 (.string (⟨#[60]⟩ : ByteArray)) (.string (⟨#[61, 58, 61]⟩ : ByteArray)) (.string (⟨#[62]⟩ : ByteArray)) (.string (⟨#[61, 60]⟩ : ByteArray)) (.string (⟨#[62, 61]⟩ : ByteArray)) (.string (⟨#[61, 92, 61]⟩ : ByteArray))
    have HR : Hid (holdsT (⟨#[62]⟩ : ByteArray) A B = (false, eA, tA)) := Lib.hid (holds_bad1 hop_2 HEA.out HA0.out)
    go_wp2_with fail
    clear ix
    clear x0 x1 x2 x3 y0 y1 y2 y3
    refine (go_HoldsA (⟨#[62]⟩ : ByteArray) A B _ _ _ (by omega) (by omega) F1.out F2.out HA.out.any HC.out.any).mono ?_
    rintro e2 wa2 ⟨v2, rfl, hiq, hbq⟩
    replace HR1 := Lib.hid (row_on HR1.out hbq)
    replace HR2 := Lib.hid (row_on HR2.out hbq)
    replace HI := Lib.hid (row_on HI.out hbq)
    replace HA := Lib.hid (HA.out.below hbq)
    replace HC := Lib.hid (HC.out.below hbq)
    replace HB := Lib.hid (HB.out.trans (hbq.mono HB.out.size))
    rw [HR.out] at hiq
    obtain ⟨q2, rfl, hiq⟩ := hiq
    simp only at hiq ⊢
    obtain ⟨az2, cz2, rfl⟩ := hiq.form
    clear hiq hbq HR
    go_upto_region 13 with fail
    have hbq := below_new wa2 (.cells #[.int .i64 tA.k, .int .i64 tA.n, .string tA.s, .slice az2 tA.args.length cz2] 30 (0, 0))
    have hq := heap_alloc_new wa2 (.cells #[.int .i64 tA.k, .int .i64 tA.n, .string tA.s, .slice az2 tA.args.length cz2] 30 (0, 0))
    have hzq : wa2.heap.size < (wa2.alloc (.cells #[.int .i64 tA.k, .int .i64 tA.n, .string tA.s, .slice az2 tA.args.length cz2] 30 (0, 0))).heap.size := by simp
    replace HR1 := Lib.hid (row_on HR1.out hbq)
    replace HR2 := Lib.hid (row_on HR2.out hbq)
    replace HI := Lib.hid (row_on HI.out hbq)
    replace HA := Lib.hid (HA.out.below hbq)
    replace HC := Lib.hid (HC.out.below hbq)
    replace HB := Lib.hid (HB.out.trans (hbq.mono HB.out.size))
    clear hbq hq
    generalize wa2.alloc (.cells #[.int .i64 tA.k, .int .i64 tA.n, .string tA.s, .slice az2 tA.args.length cz2] 30 (0, 0)) = wb2 at *
    obtain ⟨z0, z1, z2, z3, z4, z5⟩ := row6 HI.out
    have f2 := frozen_of_row _ gi 2 _ _ HI.out
    have HI2 : Hid ((wb2.setCell ⟨gi, 2, none⟩ (.bool false)).heap[gi]? = some (.cells #[.bool false, .bool false, .bool false, .bool false, .bool false, .bool false] 63 (0, 0))) := Lib.hid (by simpa using heap_setCell_same wb2 gi 2 _ _ (.bool false) HI.out)
    have HB2 : Hid (Below w.heap.size w (wb2.setCell ⟨gi, 2, none⟩ (.bool false))) := Lib.hid (HB.out.setCell (by omega) _)
    have HR1b : Hid ((wb2.setCell ⟨gi, 2, none⟩ (.bool false)).heap[_]? = some _) := Lib.hid ((Below.heap_setCell _ _ _ _ (by show ¬ (_ = gi); omega)).trans HR1.out)
    have HR2b : Hid ((wb2.setCell ⟨gi, 2, none⟩ (.bool false)).heap[_]? = some _) := Lib.hid ((Below.heap_setCell _ _ _ _ (by show ¬ (_ = gi); omega)).trans HR2.out)
    have HAb := Lib.hid (HA.out.imp (w' := (wb2.setCell ⟨gi, 2, none⟩ (.bool false))) (fun _ h => h) fun b hh _ => Below.heap_setCell _ _ _ _ (by show ¬ (b = gi); omega))
    have HCb := Lib.hid (HC.out.imp (w' := (wb2.setCell ⟨gi, 2, none⟩ (.bool false))) (fun _ h => h) fun b hh _ => Below.heap_setCell _ _ _ _ (by show ¬ (b = gi); omega))
    have hsz : (wb2.setCell ⟨gi, 2, none⟩ (.bool false)).heap.size = wb2.heap.size := by simp [World.setCell]
    have HSZ := Lib.hid hsz
    clear hsz
    go_wp2_with fail
    clear z0 z1 z2 z3 z4 z5 f2 HI HB HR1 HR2 HA HC
    generalize wb2.setCell ⟨gi, 2, none⟩ (.bool false) = wc2 at *
    clear HSZ
    have HI := HI2
    have HB := HB2
    have HR1 := HR1b
    have HR2 := HR2b
    have HA := HAb
    have HC := HCb
    clear HI2 HB2 HR1b HR2b HAb HCb
    rw [rounds_succ]
    obtain ⟨x0, x1, x2, x3⟩ := row4 HR1.out
    obtain ⟨y0, y1, y2, y3⟩ := row4 HR2.out
    have ix := ix6_3 (.string (⟨#[60]⟩ : ByteArray)) (.string (⟨#[61, 58, 61]⟩ : ByteArray)) (.string (⟨#[62]⟩ : ByteArray)) (.string (⟨#[61, 60]⟩ : ByteArray)) (.string (⟨#[62, 61]⟩ : ByteArray)) (.string (⟨#[61, 92, 61]⟩ : ByteArray))
    have HR : Hid (holdsT (⟨#[61, 60]⟩ : ByteArray) A B = (false, eA, tA)) := Lib.hid (holds_bad1 hop_3 HEA.out HA0.out)
    go_wp2_with fail
    clear ix
    clear x0 x1 x2 x3 y0 y1 y2 y3
    refine (go_HoldsA (⟨#[61, 60]⟩ : ByteArray) A B _ _ _ (by omega) (by omega) F1.out F2.out HA.out.any HC.out.any).mono ?_
    rintro e3 wa3 ⟨v3, rfl, hiq, hbq⟩
    replace HR1 := Lib.hid (row_on HR1.out hbq)
    replace HR2 := Lib.hid (row_on HR2.out hbq)
    replace HI := Lib.hid (row_on HI.out hbq)
    replace HA := Lib.hid (HA.out.below hbq)
    replace HC := Lib.hid (HC.out.below hbq)
    replace HB := Lib.hid (HB.out.trans (hbq.mono HB.out.size))
    rw [HR.out] at hiq
    obtain ⟨q3, rfl, hiq⟩ := hiq
    simp only at hiq ⊢
    obtain ⟨az3, cz3, rfl⟩ := hiq.form
    clear hiq hbq HR
    go_upto_region 13 with fail
    have hbq := below_new wa3 (.cells #[.int .i64 tA.k, .int .i64 tA.n, .string tA.s, .slice az3 tA.args.length cz3] 30 (0, 0))
    have hq := heap_alloc_new wa3 (.cells #[.int .i64 tA.k, .int .i64 tA.n, .string tA.s, .slice az3 tA.args.length cz3] 30 (0, 0))
    have hzq : wa3.heap.size < (wa3.alloc (.cells #[.int .i64 tA.k, .int .i64 tA.n, .string tA.s, .slice az3 tA.args.length cz3] 30 (0, 0))).heap.size := by simp
    replace HR1 := Lib.hid (row_on HR1.out hbq)
    replace HR2 := Lib.hid (row_on HR2.out hbq)
    replace HI := Lib.hid (row_on HI.out hbq)
    replace HA := Lib.hid (HA.out.below hbq)
    replace HC := Lib.hid (HC.out.below hbq)
    replace HB := Lib.hid (HB.out.trans (hbq.mono HB.out.size))
    clear hbq hq
    generalize wa3.alloc (.cells #[.int .i64 tA.k, .int .i64 tA.n, .string tA.s, .slice az3 tA.args.length cz3] 30 (0, 0)) = wb3 at *
    obtain ⟨z0, z1, z2, z3, z4, z5⟩ := row6 HI.out
    have f3 := frozen_of_row _ gi 3 _ _ HI.out
    have HI2 : Hid ((wb3.setCell ⟨gi, 3, none⟩ (.bool false)).heap[gi]? = some (.cells #[.bool false, .bool false, .bool false, .bool false, .bool false, .bool false] 63 (0, 0))) := Lib.hid (by simpa using heap_setCell_same wb3 gi 3 _ _ (.bool false) HI.out)
    have HB2 : Hid (Below w.heap.size w (wb3.setCell ⟨gi, 3, none⟩ (.bool false))) := Lib.hid (HB.out.setCell (by omega) _)
    have HR1b : Hid ((wb3.setCell ⟨gi, 3, none⟩ (.bool false)).heap[_]? = some _) := Lib.hid ((Below.heap_setCell _ _ _ _ (by show ¬ (_ = gi); omega)).trans HR1.out)
    have HR2b : Hid ((wb3.setCell ⟨gi, 3, none⟩ (.bool false)).heap[_]? = some _) := Lib.hid ((Below.heap_setCell _ _ _ _ (by show ¬ (_ = gi); omega)).trans HR2.out)
    have HAb := Lib.hid (HA.out.imp (w' := (wb3.setCell ⟨gi, 3, none⟩ (.bool false))) (fun _ h => h) fun b hh _ => Below.heap_setCell _ _ _ _ (by show ¬ (b = gi); omega))
    have HCb := Lib.hid (HC.out.imp (w' := (wb3.setCell ⟨gi, 3, none⟩ (.bool false))) (fun _ h => h) fun b hh _ => Below.heap_setCell _ _ _ _ (by show ¬ (b = gi); omega))
    have hsz : (wb3.setCell ⟨gi, 3, none⟩ (.bool false)).heap.size = wb3.heap.size := by simp [World.setCell]
    have HSZ := Lib.hid hsz
    clear hsz
    go_wp2_with fail
    clear z0 z1 z2 z3 z4 z5 f3 HI HB HR1 HR2 HA HC
    generalize wb3.setCell ⟨gi, 3, none⟩ (.bool false) = wc3 at *
    clear HSZ
    have HI := HI2
    have HB := HB2
    have HR1 := HR1b
    have HR2 := HR2b
    have HA := HAb
    have HC := HCb
    clear HI2 HB2 HR1b HR2b HAb HCb
    rw [rounds_succ]
    obtain ⟨x0, x1, x2, x3⟩ := row4 HR1.out
    obtain ⟨y0, y1, y2, y3⟩ := row4 HR2.out
    have ix := ix6_4 (.string (⟨#[60]⟩ : ByteArray)) (.string (⟨#[61, 58, 61]⟩ : ByteArray)) (.string (⟨#[62]⟩ : ByteArray)) (.string (⟨#[61, 60]⟩ : ByteArray)) (.string (⟨#[62, 61]⟩ : ByteArray)) (.string (⟨#[61, 92, 61]⟩ : ByteArray))
    have HR : Hid (holdsT (⟨#[62, 61]⟩ : ByteArray) A B = (false, eA, tA)) := Lib.hid (holds_bad1 hop_4 HEA.out HA0.out)
    go_wp2_with fail
    clear ix
    clear x0 x1 x2 x3 y0 y1 y2 y3
    refine (go_HoldsA (⟨#[62, 61]⟩ : ByteArray) A B _ _ _ (by omega) (by omega) F1.out F2.out HA.out.any HC.out.any).mono ?_
    rintro e4 wa4 ⟨v4, rfl, hiq, hbq⟩
    replace HR1 := Lib.hid (row_on HR1.out hbq)
    replace HR2 := Lib.hid (row_on HR2.out hbq)
    replace HI := Lib.hid (row_on HI.out hbq)
    replace HA := Lib.hid (HA.out.below hbq)
    replace HC := Lib.hid (HC.out.below hbq)
    replace HB := Lib.hid (HB.out.trans (hbq.mono HB.out.size))
    rw [HR.out] at hiq
    obtain ⟨q4, rfl, hiq⟩ := hiq
    simp only at hiq ⊢
    obtain ⟨az4, cz4, rfl⟩ := hiq.form
    clear hiq hbq HR
    go_upto_region 13 with fail
    have hbq := below_new wa4 (.cells #[.int .i64 tA.k, .int .i64 tA.n, .string tA.s, .slice az4 tA.args.length cz4] 30 (0, 0))
    have hq := heap_alloc_new wa4 (.cells #[.int .i64 tA.k, .int .i64 tA.n, .string tA.s, .slice az4 tA.args.length cz4] 30 (0, 0))
    have hzq : wa4.heap.size < (wa4.alloc (.cells #[.int .i64 tA.k, .int .i64 tA.n, .string tA.s, .slice az4 tA.args.length cz4] 30 (0, 0))).heap.size := by simp
    replace HR1 := Lib.hid (row_on HR1.out hbq)
    replace HR2 := Lib.hid (row_on HR2.out hbq)
    replace HI := Lib.hid (row_on HI.out hbq)
    replace HA := Lib.hid (HA.out.below hbq)
    replace HC := Lib.hid (HC.out.below hbq)
    replace HB := Lib.hid (HB.out.trans (hbq.mono HB.out.size))
    clear hbq hq
    generalize wa4.alloc (.cells #[.int .i64 tA.k, .int .i64 tA.n, .string tA.s, .slice az4 tA.args.length cz4] 30 (0, 0)) = wb4 at *
    obtain ⟨z0, z1, z2, z3, z4, z5⟩ := row6 HI.out
    have f4 := frozen_of_row _ gi 4 _ _ HI.out
    have HI2 : Hid ((wb4.setCell ⟨gi, 4, none⟩ (.bool false)).heap[gi]? = some (.cells #[.bool false, .bool false, .bool false, .bool false, .bool false, .bool false] 63 (0, 0))) := Lib.hid (by simpa using heap_setCell_same wb4 gi 4 _ _ (.bool false) HI.out)
    have HB2 : Hid (Below w.heap.size w (wb4.setCell ⟨gi, 4, none⟩ (.bool false))) := Lib.hid (HB.out.setCell (by omega) _)
    have HR1b : Hid ((wb4.setCell ⟨gi, 4, none⟩ (.bool false)).heap[_]? = some _) := Lib.hid ((Below.heap_setCell _ _ _ _ (by show ¬ (_ = gi); omega)).trans HR1.out)
    have HR2b : Hid ((wb4.setCell ⟨gi, 4, none⟩ (.bool false)).heap[_]? = some _) := Lib.hid ((Below.heap_setCell _ _ _ _ (by show ¬ (_ = gi); omega)).trans HR2.out)
    have HAb := Lib.hid (HA.out.imp (w' := (wb4.setCell ⟨gi, 4, none⟩ (.bool false))) (fun _ h => h) fun b hh _ => Below.heap_setCell _ _ _ _ (by show ¬ (b = gi); omega))
    have HCb := Lib.hid (HC.out.imp (w' := (wb4.setCell ⟨gi, 4, none⟩ (.bool false))) (fun _ h => h) fun b hh _ => Below.heap_setCell _ _ _ _ (by show ¬ (b = gi); omega))
    have hsz : (wb4.setCell ⟨gi, 4, none⟩ (.bool false)).heap.size = wb4.heap.size := by simp [World.setCell]
    have HSZ := Lib.hid hsz
    clear hsz
    go_wp2_with fail
    clear z0 z1 z2 z3 z4 z5 f4 HI HB HR1 HR2 HA HC
    generalize wb4.setCell ⟨gi, 4, none⟩ (.bool false) = wc4 at *
    clear HSZ
    have HI := HI2
    have HB := HB2
    have HR1 := HR1b
    have HR2 := HR2b
    have HA := HAb
    have HC := HCb
    clear HI2 HB2 HR1b HR2b HAb HCb
    rw [rounds_succ]
    obtain ⟨x0, x1, x2, x3⟩ := row4 HR1.out
    obtain ⟨y0, y1, y2, y3⟩ := row4 HR2.out
    have ix := ix6_5 (.string (⟨#[60]⟩ : ByteArray)) (.string (⟨#[61, 58, 61]⟩ : ByteArray)) (.string (⟨#[62]⟩ : ByteArray)) (.string (⟨#[61, 60]⟩ : ByteArray)) (.string (⟨#[62, 61]⟩ : ByteArray)) (.string (⟨#[61, 92, 61]⟩ : ByteArray))
    have HR : Hid (holdsT (⟨#[61, 92, 61]⟩ : ByteArray) A B = (false, eA, tA)) := Lib.hid (holds_bad1 hop_5 HEA.out HA0.out)
    go_wp2_with fail
    clear ix
    clear x0 x1 x2 x3 y0 y1 y2 y3
    refine (go_HoldsA (⟨#[61, 92, 61]⟩ : ByteArray) A B _ _ _ (by omega) (by omega) F1.out F2.out HA.out.any HC.out.any).mono ?_
    rintro e5 wa5 ⟨v5, rfl, hiq, hbq⟩
    replace HR1 := Lib.hid (row_on HR1.out hbq)
    replace HR2 := Lib.hid (row_on HR2.out hbq)
    replace HI := Lib.hid (row_on HI.out hbq)
    replace HA := Lib.hid (HA.out.below hbq)
    replace HC := Lib.hid (HC.out.below hbq)
    replace HB := Lib.hid (HB.out.trans (hbq.mono HB.out.size))
    rw [HR.out] at hiq
    obtain ⟨q5, rfl, hiq⟩ := hiq
    simp only at hiq ⊢
    obtain ⟨az5, cz5, rfl⟩ := hiq.form
    clear hiq hbq HR
    go_upto_region 13 with fail
    have hbq := below_new wa5 (.cells #[.int .i64 tA.k, .int .i64 tA.n, .string tA.s, .slice az5 tA.args.length cz5] 30 (0, 0))
    have hq := heap_alloc_new wa5 (.cells #[.int .i64 tA.k, .int .i64 tA.n, .string tA.s, .slice az5 tA.args.length cz5] 30 (0, 0))
    have hzq : wa5.heap.size < (wa5.alloc (.cells #[.int .i64 tA.k, .int .i64 tA.n, .string tA.s, .slice az5 tA.args.length cz5] 30 (0, 0))).heap.size := by simp
    replace HR1 := Lib.hid (row_on HR1.out hbq)
    replace HR2 := Lib.hid (row_on HR2.out hbq)
    replace HI := Lib.hid (row_on HI.out hbq)
    replace HA := Lib.hid (HA.out.below hbq)
    replace HC := Lib.hid (HC.out.below hbq)
    replace HB := Lib.hid (HB.out.trans (hbq.mono HB.out.size))
    clear hbq hq
    generalize wa5.alloc (.cells #[.int .i64 tA.k, .int .i64 tA.n, .string tA.s, .slice az5 tA.args.length cz5] 30 (0, 0)) = wb5 at *
    obtain ⟨z0, z1, z2, z3, z4, z5⟩ := row6 HI.out
    have f5 := frozen_of_row _ gi 5 _ _ HI.out
    have HI2 : Hid ((wb5.setCell ⟨gi, 5, none⟩ (.bool false)).heap[gi]? = some (.cells #[.bool false, .bool false, .bool false, .bool false, .bool false, .bool false] 63 (0, 0))) := Lib.hid (by simpa using heap_setCell_same wb5 gi 5 _ _ (.bool false) HI.out)
    have HB2 : Hid (Below w.heap.size w (wb5.setCell ⟨gi, 5, none⟩ (.bool false))) := Lib.hid (HB.out.setCell (by omega) _)
    have HR1b : Hid ((wb5.setCell ⟨gi, 5, none⟩ (.bool false)).heap[_]? = some _) := Lib.hid ((Below.heap_setCell _ _ _ _ (by show ¬ (_ = gi); omega)).trans HR1.out)
    have HR2b : Hid ((wb5.setCell ⟨gi, 5, none⟩ (.bool false)).heap[_]? = some _) := Lib.hid ((Below.heap_setCell _ _ _ _ (by show ¬ (_ = gi); omega)).trans HR2.out)
    have HAb := Lib.hid (HA.out.imp (w' := (wb5.setCell ⟨gi, 5, none⟩ (.bool false))) (fun _ h => h) fun b hh _ => Below.heap_setCell _ _ _ _ (by show ¬ (b = gi); omega))
    have HCb := Lib.hid (HC.out.imp (w' := (wb5.setCell ⟨gi, 5, none⟩ (.bool false))) (fun _ h => h) fun b hh _ => Below.heap_setCell _ _ _ _ (by show ¬ (b = gi); omega))
    have hsz : (wb5.setCell ⟨gi, 5, none⟩ (.bool false)).heap.size = wb5.heap.size := by simp [World.setCell]
    have HSZ := Lib.hid hsz
    clear hsz
    go_wp2_with fail
    clear z0 z1 z2 z3 z4 z5 f5 HI HB HR1 HR2 HA HC
    generalize wb5.setCell ⟨gi, 5, none⟩ (.bool false) = wc5 at *
    clear HSZ
    have HI := HI2
    have HB := HB2
    have HR1 := HR1b
    have HR2 := HR2b
    have HA := HAb
    have HC := HCb
    clear HI2 HB2 HR1b HR2b HAb HCb
    rw [rounds_succ]
    obtain ⟨z0, z1, z2, z3, z4, z5⟩ := row6 HI.out
    go_wp2
    go_ret
    exact ⟨rfl, HB.out⟩
  subst hA0
  by_cases hB0 : eB = 0
  case neg =>
    have pe : (eB != 0) = true := by simpa using hB0
    have pq : (eB != eB) = false := by simp
    have HB0 := Lib.hid hB0
    clear hB0
    rw [rounds_succ]
    obtain ⟨x0, x1, x2, x3⟩ := row4 HR1.out
    obtain ⟨y0, y1, y2, y3⟩ := row4 HR2.out
    have ix := ix6_0 (.string (⟨#[60]⟩ : ByteArray)) (.string (⟨#[61, 58, 61]⟩ : ByteArray)) (.string (⟨#[62]⟩ : ByteArray)) (.string (⟨#[61, 60]⟩ : ByteArray)) (.string (⟨#[62, 61]⟩ : ByteArray)) (.string (⟨#[61, 92, 61]⟩ : ByteArray))
    have HR : Hid (holdsT (⟨#[60]⟩ : ByteArray) A B = (false, eB, tB)) := Lib.hid (holds_bad2 hop_0 HEA.out HEB.out HB0.out)
    go_wp2_with fail
    clear ix
    clear x0 x1 x2 x3 y0 y1 y2 y3
    refine (go_HoldsA (⟨#[60]⟩ : ByteArray) A B _ _ _ (by omega) (by omega) F1.out F2.out HA.out.any HC.out.any).mono ?_
    rintro e0 wa0 ⟨v0, rfl, hiq, hbq⟩
    replace HR1 := Lib.hid (row_on HR1.out hbq)
    replace HR2 := Lib.hid (row_on HR2.out hbq)
    replace HI := Lib.hid (row_on HI.out hbq)
    replace HA := Lib.hid (HA.out.below hbq)
    replace HC := Lib.hid (HC.out.below hbq)
    replace HB := Lib.hid (HB.out.trans (hbq.mono HB.out.size))
    rw [HR.out] at hiq
    obtain ⟨q0, rfl, hiq⟩ := hiq
    simp only at hiq ⊢
    obtain ⟨az0, cz0, rfl⟩ := hiq.form
    clear hiq hbq HR
    go_upto_region 13 with fail
    have hbq := below_new wa0 (.cells #[.int .i64 tB.k, .int .i64 tB.n, .string tB.s, .slice az0 tB.args.length cz0] 30 (0, 0))
    have hq := heap_alloc_new wa0 (.cells #[.int .i64 tB.k, .int .i64 tB.n, .string tB.s, .slice az0 tB.args.length cz0] 30 (0, 0))
    have hzq : wa0.heap.size < (wa0.alloc (.cells #[.int .i64 tB.k, .int .i64 tB.n, .string tB.s, .slice az0 tB.args.length cz0] 30 (0, 0))).heap.size := by simp
    replace HR1 := Lib.hid (row_on HR1.out hbq)
    replace HR2 := Lib.hid (row_on HR2.out hbq)
    replace HI := Lib.hid (row_on HI.out hbq)
    replace HA := Lib.hid (HA.out.below hbq)
    replace HC := Lib.hid (HC.out.below hbq)
    replace HB := Lib.hid (HB.out.trans (hbq.mono HB.out.size))
    clear hbq hq
    generalize wa0.alloc (.cells #[.int .i64 tB.k, .int .i64 tB.n, .string tB.s, .slice az0 tB.args.length cz0] 30 (0, 0)) = wb0 at *
    obtain ⟨z0, z1, z2, z3, z4, z5⟩ := row6 HI.out
    have f0 := frozen_of_row _ gi 0 _ _ HI.out
    have HI2 : Hid ((wb0.setCell ⟨gi, 0, none⟩ (.bool false)).heap[gi]? = some (.cells #[.bool false, .bool false, .bool false, .bool false, .bool false, .bool false] 63 (0, 0))) := Lib.hid (by simpa using heap_setCell_same wb0 gi 0 _ _ (.bool false) HI.out)
    have HB2 : Hid (Below w.heap.size w (wb0.setCell ⟨gi, 0, none⟩ (.bool false))) := Lib.hid (HB.out.setCell (by omega) _)
    have HR1b : Hid ((wb0.setCell ⟨gi, 0, none⟩ (.bool false)).heap[_]? = some _) := Lib.hid ((Below.heap_setCell _ _ _ _ (by show ¬ (_ = gi); omega)).trans HR1.out)
    have HR2b : Hid ((wb0.setCell ⟨gi, 0, none⟩ (.bool false)).heap[_]? = some _) := Lib.hid ((Below.heap_setCell _ _ _ _ (by show ¬ (_ = gi); omega)).trans HR2.out)
    have HAb := Lib.hid (HA.out.imp (w' := (wb0.setCell ⟨gi, 0, none⟩ (.bool false))) (fun _ h => h) fun b hh _ => Below.heap_setCell _ _ _ _ (by show ¬ (b = gi); omega))
    have HCb := Lib.hid (HC.out.imp (w' := (wb0.setCell ⟨gi, 0, none⟩ (.bool false))) (fun _ h => h) fun b hh _ => Below.heap_setCell _ _ _ _ (by show ¬ (b = gi); omega))
    have hsz : (wb0.setCell ⟨gi, 0, none⟩ (.bool false)).heap.size = wb0.heap.size := by simp [World.setCell]
    have HSZ := Lib.hid hsz
    clear hsz
    go_wp2_with fail
    clear z0 z1 z2 z3 z4 z5 f0 HI HB HR1 HR2 HA HC
    generalize wb0.setCell ⟨gi, 0, none⟩ (.bool false) = wc0 at *
    clear HSZ
    have HI := HI2
    have HB := HB2
    have HR1 := HR1b
    have HR2 := HR2b
    have HA := HAb
    have HC := HCb
    clear HI2 HB2 HR1b HR2b HAb HCb
    rw [rounds_succ]
    obtain ⟨x0, x1, x2, x3⟩ := row4 HR1.out
    obtain ⟨y0, y1, y2, y3⟩ := row4 HR2.out
    have ix := ix6_1 (.string (⟨#[60]⟩ : ByteArray)) (.string (⟨#[61, 58, 61]⟩ : ByteArray)) (.string (⟨#[62]⟩ : ByteArray)) (.string (⟨#[61, 60]⟩ : ByteArray)) (.string (⟨#[62, 61]⟩ : ByteArray)) (.string (⟨#[61, 92, 61]⟩ : ByteArray))
    have HR : Hid (holdsT (⟨#[61, 58, 61]⟩ : ByteArray) A B = (false, eB, tB)) := Lib.hid (holds_bad2 hop_1 HEA.out HEB.out HB0.out)
    go_wp2_with fail
    clear ix
    clear x0 x1 x2 x3 y0 y1 y2 y3
    refine (go_HoldsA (⟨#[61, 58, 61]⟩ : ByteArray) A B _ _ _ (by omega) (by omega) F1.out F2.out HA.out.any HC.out.any).mono ?_
    rintro e1 wa1 ⟨v1, rfl, hiq, hbq⟩
    replace HR1 := Lib.hid (row_on HR1.out hbq)
    replace HR2 := Lib.hid (row_on HR2.out hbq)
    replace HI := Lib.hid (row_on HI.out hbq)
    replace HA := Lib.hid (HA.out.below hbq)
    replace HC := Lib.hid (HC.out.below hbq)
    replace HB := Lib.hid (HB.out.trans (hbq.mono HB.out.size))
    rw [HR.out] at hiq
    obtain ⟨q1, rfl, hiq⟩ := hiq
    simp only at hiq ⊢
    obtain ⟨az1, cz1, rfl⟩ := hiq.form
    clear hiq hbq HR
    go_upto_region 13 with fail
    have hbq := below_new wa1 (.cells #[.int .i64 tB.k, .int .i64 tB.n, .string tB.s, .slice az1 tB.args.length cz1] 30 (0, 0))
    have hq := heap_alloc_new wa1 (.cells #[.int .i64 tB.k, .int .i64 tB.n, .string tB.s, .slice az1 tB.args.length cz1] 30 (0, 0))
    have hzq : wa1.heap.size < (wa1.alloc (.cells #[.int .i64 tB.k, .int .i64 tB.n, .string tB.s, .slice az1 tB.args.length cz1] 30 (0, 0))).heap.size := by simp
    replace HR1 := Lib.hid (row_on HR1.out hbq)
    replace HR2 := Lib.hid (row_on HR2.out hbq)
    replace HI := Lib.hid (row_on HI.out hbq)
    replace HA := Lib.hid (HA.out.below hbq)
    replace HC := Lib.hid (HC.out.below hbq)
    replace HB := Lib.hid (HB.out.trans (hbq.mono HB.out.size))
    clear hbq hq
    generalize wa1.alloc (.cells #[.int .i64 tB.k, .int .i64 tB.n, .string tB.s, .slice az1 tB.args.length cz1] 30 (0, 0)) = wb1 at *
    obtain ⟨z0, z1, z2, z3, z4, z5⟩ := row6 HI.out
    have f1 := frozen_of_row _ gi 1 _ _ HI.out
    have HI2 : Hid ((wb1.setCell ⟨gi, 1, none⟩ (.bool false)).heap[gi]? = some (.cells #[.bool false, .bool false, .bool false, .bool false, .bool false, .bool false] 63 (0, 0))) := Lib.hid (by simpa using heap_setCell_same wb1 gi 1 _ _ (.bool false) HI.out)
    have HB2 : Hid (Below w.heap.size w (wb1.setCell ⟨gi, 1, none⟩ (.bool false))) := Lib.hid (HB.out.setCell (by omega) _)
    have HR1b : Hid ((wb1.setCell ⟨gi, 1, none⟩ (.bool false)).heap[_]? = some _) := Lib.hid ((Below.heap_setCell _ _ _ _ (by show ¬ (_ = gi); omega)).trans HR1.out)
    have HR2b : Hid ((wb1.setCell ⟨gi, 1, none⟩ (.bool false)).heap[_]? = some _) := Lib.hid ((Below.heap_setCell _ _ _ _ (by show ¬ (_ = gi); omega)).trans HR2.out)
    have HAb := Lib.hid (HA.out.imp (w' := (wb1.setCell ⟨gi, 1, none⟩ (.bool false))) (fun _ h => h) fun b hh _ => Below.heap_setCell _ _ _ _ (by show ¬ (b = gi); omega))
    have HCb := Lib.hid (HC.out.imp (w' := (wb1.setCell ⟨gi, 1, none⟩ (.bool false))) (fun _ h => h) fun b hh _ => Below.heap_setCell _ _ _ _ (by show ¬ (b = gi); omega))
    have hsz : (wb1.setCell ⟨gi, 1, none⟩ (.bool false)).heap.size = wb1.heap.size := by simp [World.setCell]
    have HSZ := Lib.hid hsz
    clear hsz
    go_wp2_with fail
    clear z0 z1 z2 z3 z4 z5 f1 HI HB HR1 HR2 HA HC
    generalize wb1.setCell ⟨gi, 1, none⟩ (.bool false) = wc1 at *
    clear HSZ
    have HI := HI2
    have HB := HB2
    have HR1 := HR1b
    have HR2 := HR2b
    have HA := HAb
    have HC := HCb
    clear HI2 HB2 HR1b HR2b HAb HCb
    rw [rounds_succ]
    obtain ⟨x0, x1, x2, x3⟩ := row4 HR1.out
    obtain ⟨y0, y1, y2, y3⟩ := row4 HR2.out
    have ix := ix6_2 (.string (⟨#[60]⟩ : ByteArray)) (.string (⟨#[61, 58, 61]⟩ : ByteArray)) (.string (⟨#[62]⟩ : ByteArray)) (.string (⟨#[61, 60]⟩ : ByteArray)) (.string (⟨#[62, 61]⟩ : ByteArray)) (.string (⟨#[61, 92, 61]⟩ : ByteArray))
    have HR : Hid (holdsT (⟨#[62]⟩ : ByteArray) A B = (false, eB, tB)) := Lib.hid (holds_bad2 hop_2 HEA.out HEB.out HB0.out)
    go_wp2_with fail
    clear ix
    clear x0 x1 x2 x3 y0 y1 y2 y3
    refine (go_HoldsA (⟨#[62]⟩ : ByteArray) A B _ _ _ (by omega) (by omega) F1.out F2.out HA.out.any HC.out.any).mono ?_
    rintro e2 wa2 ⟨v2, rfl, hiq, hbq⟩
    replace HR1 := Lib.hid (row_on HR1.out hbq)
    replace HR2 := Lib.hid (row_on HR2.out hbq)
    replace HI := Lib.hid (row_on HI.out hbq)
    replace HA := Lib.hid (HA.out.below hbq)
    replace HC := Lib.hid (HC.out.below hbq)
    replace HB := Lib.hid (HB.out.trans (hbq.mono HB.out.size))
    rw [HR.out] at hiq
    obtain ⟨q2, rfl, hiq⟩ := hiq
    simp only at hiq ⊢
    obtain ⟨az2, cz2, rfl⟩ := hiq.form
    clear hiq hbq HR
    go_upto_region 13 with fail
    have hbq := below_new wa2 (.cells #[.int .i64 tB.k, .int .i64 tB.n, .string tB.s, .slice az2 tB.args.length cz2] 30 (0, 0))
    have hq := heap_alloc_new wa2 (.cells #[.int .i64 tB.k, .int .i64 tB.n, .string tB.s, .slice az2 tB.args.length cz2] 30 (0, 0))
    have hzq : wa2.heap.size < (wa2.alloc (.cells #[.int .i64 tB.k, .int .i64 tB.n, .string tB.s, .slice az2 tB.args.length cz2] 30 (0, 0))).heap.size := by simp
    replace HR1 := Lib.hid (row_on HR1.out hbq)
    replace HR2 := Lib.hid (row_on HR2.out hbq)
    replace HI := Lib.hid (row_on HI.out hbq)
    replace HA := Lib.hid (HA.out.below hbq)
    replace HC := Lib.hid (HC.out.below hbq)
    replace HB := Lib.hid (HB.out.trans (hbq.mono HB.out.size))
    clear hbq hq
    generalize wa2.alloc (.cells #[.int .i64 tB.k, .int .i64 tB.n, .string tB.s, .slice az2 tB.args.length cz2] 30 (0, 0)) = wb2 at *
    obtain ⟨z0, z1, z2, z3, z4, z5⟩ := row6 HI.out
    have f2 := frozen_of_row _ gi 2 _ _ HI.out
    have HI2 : Hid ((wb2.setCell ⟨gi, 2, none⟩ (.bool false)).heap[gi]? = some (.cells #[.bool false, .bool false, .bool false, .bool false, .bool false, .bool false] 63 (0, 0))) := Lib.hid (by simpa using heap_setCell_same wb2 gi 2 _ _ (.bool false) HI.out)
    have HB2 : Hid (Below w.heap.size w (wb2.setCell ⟨gi, 2, none⟩ (.bool false))) := Lib.hid (HB.out.setCell (by omega) _)
    have HR1b : Hid ((wb2.setCell ⟨gi, 2, none⟩ (.bool false)).heap[_]? = some _) := Lib.hid ((Below.heap_setCell _ _ _ _ (by show ¬ (_ = gi); omega)).trans HR1.out)
    have HR2b : Hid ((wb2.setCell ⟨gi, 2, none⟩ (.bool false)).heap[_]? = some _) := Lib.hid ((Below.heap_setCell _ _ _ _ (by show ¬ (_ = gi); omega)).trans HR2.out)
    have HAb := Lib.hid (HA.out.imp (w' := (wb2.setCell ⟨gi, 2, none⟩ (.bool false))) (fun _ h => h) fun b hh _ => Below.heap_setCell _ _ _ _ (by show ¬ (b = gi); omega))
    have HCb := Lib.hid (HC.out.imp (w' := (wb2.setCell ⟨gi, 2, none⟩ (.bool false))) (fun _ h => h) fun b hh _ => Below.heap_setCell _ _ _ _ (by show ¬ (b = gi); omega))
    have hsz : (wb2.setCell ⟨gi, 2, none⟩ (.bool false)).heap.size = wb2.heap.size := by simp [World.setCell]
    have HSZ := Lib.hid hsz
    clear hsz
    go_wp2_with fail
    clear z0 z1 z2 z3 z4 z5 f2 HI HB HR1 HR2 HA HC
    generalize wb2.setCell ⟨gi, 2, none⟩ (.bool false) = wc2 at *
    clear HSZ
    have HI := HI2
    have HB := HB2
    have HR1 := HR1b
    have HR2 := HR2b
    have HA := HAb
    have HC := HCb
    clear HI2 HB2 HR1b HR2b HAb HCb
    rw [rounds_succ]
    obtain ⟨x0, x1, x2, x3⟩ := row4 HR1.out
    obtain ⟨y0, y1, y2, y3⟩ := row4 HR2.out
    have ix := ix6_3 (.string (⟨#[60]⟩ : ByteArray)) (.string (⟨#[61, 58, 61]⟩ : ByteArray)) (.string (⟨#[62]⟩ : ByteArray)) (.string (⟨#[61, 60]⟩ : ByteArray)) (.string (⟨#[62, 61]⟩ : ByteArray)) (.string (⟨#[61, 92, 61]⟩ : ByteArray))
    have HR : Hid (holdsT (⟨#[61, 60]⟩ : ByteArray) A B = (false, eB, tB)) := Lib.hid (holds_bad2 hop_3 HEA.out HEB.out HB0.out)
    go_wp2_with fail
    clear ix
    clear x0 x1 x2 x3 y0 y1 y2 y3
    refine (go_HoldsA (⟨#[61, 60]⟩ : ByteArray) A B _ _ _ (by omega) (by omega) F1.out F2.out HA.out.any HC.out.any).mono ?_
    rintro e3 wa3 ⟨v3, rfl, hiq, hbq⟩
    replace HR1 := Lib.hid (row_on HR1.out hbq)
    replace HR2 := Lib.hid (row_on HR2.out hbq)
    replace HI := Lib.hid (row_on HI.out hbq)
    replace HA := Lib.hid (HA.out.below hbq)
    replace HC := Lib.hid (HC.out.below hbq)
    replace HB := Lib.hid (HB.out.trans (hbq.mono HB.out.size))
    rw [HR.out] at hiq
    obtain ⟨q3, rfl, hiq⟩ := hiq
    simp only at hiq ⊢
    obtain ⟨az3, cz3, rfl⟩ := hiq.form
    clear hiq hbq HR
    go_upto_region 13 with fail
    have hbq := below_new wa3 (.cells #[.int .i64 tB.k, .int .i64 tB.n, .string tB.s, .slice az3 tB.args.length cz3] 30 (0, 0))
    have hq := heap_alloc_new wa3 (.cells #[.int .i64 tB.k, .int .i64 tB.n, .string tB.s, .slice az3 tB.args.length cz3] 30 (0, 0))
    have hzq : wa3.heap.size < (wa3.alloc (.cells #[.int .i64 tB.k, .int .i64 tB.n, .string tB.s, .slice az3 tB.args.length cz3] 30 (0, 0))).heap.size := by simp
    replace HR1 := Lib.hid (row_on HR1.out hbq)
    replace HR2 := Lib.hid (row_on HR2.out hbq)
    replace HI := Lib.hid (row_on HI.out hbq)
    replace HA := Lib.hid (HA.out.below hbq)
    replace HC := Lib.hid (HC.out.below hbq)
    replace HB := Lib.hid (HB.out.trans (hbq.mono HB.out.size))
    clear hbq hq
    generalize wa3.alloc (.cells #[.int .i64 tB.k, .int .i64 tB.n, .string tB.s, .slice az3 tB.args.length cz3] 30 (0, 0)) = wb3 at *
    obtain ⟨z0, z1, z2, z3, z4, z5⟩ := row6 HI.out
    have f3 := frozen_of_row _ gi 3 _ _ HI.out
    have HI2 : Hid ((wb3.setCell ⟨gi, 3, none⟩ (.bool false)).heap[gi]? = some (.cells #[.bool false, .bool false, .bool false, .bool false, .bool false, .bool false] 63 (0, 0))) := Lib.hid (by simpa using heap_setCell_same wb3 gi 3 _ _ (.bool false) HI.out)
    have HB2 : Hid (Below w.heap.size w (wb3.setCell ⟨gi, 3, none⟩ (.bool false))) := Lib.hid (HB.out.setCell (by omega) _)
    have HR1b : Hid ((wb3.setCell ⟨gi, 3, none⟩ (.bool false)).heap[_]? = some _) := Lib.hid ((Below.heap_setCell _ _ _ _ (by show ¬ (_ = gi); omega)).trans HR1.out)
    have HR2b : Hid ((wb3.setCell ⟨gi, 3, none⟩ (.bool false)).heap[_]? = some _) := Lib.hid ((Below.heap_setCell _ _ _ _ (by show ¬ (_ = gi); omega)).trans HR2.out)
    have HAb := Lib.hid (HA.out.imp (w' := (wb3.setCell ⟨gi, 3, none⟩ (.bool false))) (fun _ h => h) fun b hh _ => Below.heap_setCell _ _ _ _ (by show ¬ (b = gi); omega))
    have HCb := Lib.hid (HC.out.imp (w' := (wb3.setCell ⟨gi, 3, none⟩ (.bool false))) (fun _ h => h) fun b hh _ => Below.heap_setCell _ _ _ _ (by show ¬ (b = gi); omega))
    have hsz : (wb3.setCell ⟨gi, 3, none⟩ (.bool false)).heap.size = wb3.heap.size := by simp [World.setCell]
    have HSZ := Lib.hid hsz
    clear hsz
    go_wp2_with fail
    clear z0 z1 z2 z3 z4 z5 f3 HI HB HR1 HR2 HA HC
    generalize wb3.setCell ⟨gi, 3, none⟩ (.bool false) = wc3 at *
    clear HSZ
    have HI := HI2
    have HB := HB2
    have HR1 := HR1b
    have HR2 := HR2b
    have HA := HAb
    have HC := HCb
    clear HI2 HB2 HR1b HR2b HAb HCb
    rw [rounds_succ]
    obtain ⟨x0, x1, x2, x3⟩ := row4 HR1.out
    obtain ⟨y0, y1, y2, y3⟩ := row4 HR2.out
    have ix := ix6_4 (.string (⟨#[60]⟩ : ByteArray)) (.string (⟨#[61, 58, 61]⟩ : ByteArray)) (.string (⟨#[62]⟩ : ByteArray)) (.string (⟨#[61, 60]⟩ : ByteArray)) (.string (⟨#[62, 61]⟩ : ByteArray)) (.string (⟨#[61, 92, 61]⟩ : ByteArray))
    have HR : Hid (holdsT (⟨#[62, 61]⟩ : ByteArray) A B = (false, eB, tB)) := Lib.hid (holds_bad2 hop_4 HEA.out HEB.out HB0.out)
    go_wp2_with fail
    clear ix
    clear x0 x1 x2 x3 y0 y1 y2 y3
    refine (go_HoldsA (⟨#[62, 61]⟩ : ByteArray) A B _ _ _ (by omega) (by omega) F1.out F2.out HA.out.any HC.out.any).mono ?_
    rintro e4 wa4 ⟨v4, rfl, hiq, hbq⟩
    replace HR1 := Lib.hid (row_on HR1.out hbq)
    replace HR2 := Lib.hid (row_on HR2.out hbq)
    replace HI := Lib.hid (row_on HI.out hbq)
    replace HA := Lib.hid (HA.out.below hbq)
    replace HC := Lib.hid (HC.out.below hbq)
    replace HB := Lib.hid (HB.out.trans (hbq.mono HB.out.size))
    rw [HR.out] at hiq
    obtain ⟨q4, rfl, hiq⟩ := hiq
    simp only at hiq ⊢
    obtain ⟨az4, cz4, rfl⟩ := hiq.form
    clear hiq hbq HR
    go_upto_region 13 with fail
    have hbq := below_new wa4 (.cells #[.int .i64 tB.k, .int .i64 tB.n, .string tB.s, .slice az4 tB.args.length cz4] 30 (0, 0))
    have hq := heap_alloc_new wa4 (.cells #[.int .i64 tB.k, .int .i64 tB.n, .string tB.s, .slice az4 tB.args.length cz4] 30 (0, 0))
    have hzq : wa4.heap.size < (wa4.alloc (.cells #[.int .i64 tB.k, .int .i64 tB.n, .string tB.s, .slice az4 tB.args.length cz4] 30 (0, 0))).heap.size := by simp
    replace HR1 := Lib.hid (row_on HR1.out hbq)
    replace HR2 := Lib.hid (row_on HR2.out hbq)
    replace HI := Lib.hid (row_on HI.out hbq)
    replace HA := Lib.hid (HA.out.below hbq)
    replace HC := Lib.hid (HC.out.below hbq)
    replace HB := Lib.hid (HB.out.trans (hbq.mono HB.out.size))
    clear hbq hq
    generalize wa4.alloc (.cells #[.int .i64 tB.k, .int .i64 tB.n, .string tB.s, .slice az4 tB.args.length cz4] 30 (0, 0)) = wb4 at *
    obtain ⟨z0, z1, z2, z3, z4, z5⟩ := row6 HI.out
    have f4 := frozen_of_row _ gi 4 _ _ HI.out
    have HI2 : Hid ((wb4.setCell ⟨gi, 4, none⟩ (.bool false)).heap[gi]? = some (.cells #[.bool false, .bool false, .bool false, .bool false, .bool false, .bool false] 63 (0, 0))) := Lib.hid (by simpa using heap_setCell_same wb4 gi 4 _ _ (.bool false) HI.out)
    have HB2 : Hid (Below w.heap.size w (wb4.setCell ⟨gi, 4, none⟩ (.bool false))) := Lib.hid (HB.out.setCell (by omega) _)
    have HR1b : Hid ((wb4.setCell ⟨gi, 4, none⟩ (.bool false)).heap[_]? = some _) := Lib.hid ((Below.heap_setCell _ _ _ _ (by show ¬ (_ = gi); omega)).trans HR1.out)
    have HR2b : Hid ((wb4.setCell ⟨gi, 4, none⟩ (.bool false)).heap[_]? = some _) := Lib.hid ((Below.heap_setCell _ _ _ _ (by show ¬ (_ = gi); omega)).trans HR2.out)
    have HAb := Lib.hid (HA.out.imp (w' := (wb4.setCell ⟨gi, 4, none⟩ (.bool false))) (fun _ h => h) fun b hh _ => Below.heap_setCell _ _ _ _ (by show ¬ (b = gi); omega))
    have HCb := Lib.hid (HC.out.imp (w' := (wb4.setCell ⟨gi, 4, none⟩ (.bool false))) (fun _ h => h) fun b hh _ => Below.heap_setCell _ _ _ _ (by show ¬ (b = gi); omega))
    have hsz : (wb4.setCell ⟨gi, 4, none⟩ (.bool false)).heap.size = wb4.heap.size := by simp [World.setCell]
    have HSZ := Lib.hid hsz
    clear hsz
    go_wp2_with fail
    clear z0 z1 z2 z3 z4 z5 f4 HI HB HR1 HR2 HA HC
    generalize wb4.setCell ⟨gi, 4, none⟩ (.bool false) = wc4 at *
    clear HSZ
    have HI := HI2
    have HB := HB2
    have HR1 := HR1b
    have HR2 := HR2b
    have HA := HAb
    have HC := HCb
    clear HI2 HB2 HR1b HR2b HAb HCb
    rw [rounds_succ]
    obtain ⟨x0, x1, x2, x3⟩ := row4 HR1.out
    obtain ⟨y0, y1, y2, y3⟩ := row4 HR2.out
    have ix := ix6_5 (.string (⟨#[60]⟩ : ByteArray)) (.string (⟨#[61, 58, 61]⟩ : ByteArray)) (.string (⟨#[62]⟩ : ByteArray)) (.string (⟨#[61, 60]⟩ : ByteArray)) (.string (⟨#[62, 61]⟩ : ByteArray)) (.string (⟨#[61, 92, 61]⟩ : ByteArray))
    have HR : Hid (holdsT (⟨#[61, 92, 61]⟩ : ByteArray) A B = (false, eB, tB)) := Lib.hid (holds_bad2 hop_5 HEA.out HEB.out HB0.out)
    go_wp2_with fail
    clear ix
    clear x0 x1 x2 x3 y0 y1 y2 y3
    refine (go_HoldsA (⟨#[61, 92, 61]⟩ : ByteArray) A B _ _ _ (by omega) (by omega) F1.out F2.out HA.out.any HC.out.any).mono ?_
    rintro e5 wa5 ⟨v5, rfl, hiq, hbq⟩
    replace HR1 := Lib.hid (row_on HR1.out hbq)
    replace HR2 := Lib.hid (row_on HR2.out hbq)
    replace HI := Lib.hid (row_on HI.out hbq)
    replace HA := Lib.hid (HA.out.below hbq)
    replace HC := Lib.hid (HC.out.below hbq)
    replace HB := Lib.hid (HB.out.trans (hbq.mono HB.out.size))
    rw [HR.out] at hiq
    obtain ⟨q5, rfl, hiq⟩ := hiq
    simp only at hiq ⊢
    obtain ⟨az5, cz5, rfl⟩ := hiq.form
    clear hiq hbq HR
    go_upto_region 13 with fail
    have hbq := below_new wa5 (.cells #[.int .i64 tB.k, .int .i64 tB.n, .string tB.s, .slice az5 tB.args.length cz5] 30 (0, 0))
    have hq := heap_alloc_new wa5 (.cells #[.int .i64 tB.k, .int .i64 tB.n, .string tB.s, .slice az5 tB.args.length cz5] 30 (0, 0))
    have hzq : wa5.heap.size < (wa5.alloc (.cells #[.int .i64 tB.k, .int .i64 tB.n, .string tB.s, .slice az5 tB.args.length cz5] 30 (0, 0))).heap.size := by simp
    replace HR1 := Lib.hid (row_on HR1.out hbq)
    replace HR2 := Lib.hid (row_on HR2.out hbq)
    replace HI := Lib.hid (row_on HI.out hbq)
    replace HA := Lib.hid (HA.out.below hbq)
    replace HC := Lib.hid (HC.out.below hbq)
    replace HB := Lib.hid (HB.out.trans (hbq.mono HB.out.size))
    clear hbq hq
    generalize wa5.alloc (.cells #[.int .i64 tB.k, .int .i64 tB.n, .string tB.s, .slice az5 tB.args.length cz5] 30 (0, 0)) = wb5 at *
    obtain ⟨z0, z1, z2, z3, z4, z5⟩ := row6 HI.out
    have f5 := frozen_of_row _ gi 5 _ _ HI.out
    have HI2 : Hid ((wb5.setCell ⟨gi, 5, none⟩ (.bool false)).heap[gi]? = some (.cells #[.bool false, .bool false, .bool false, .bool false, .bool false, .bool false] 63 (0, 0))) := Lib.hid (by simpa using heap_setCell_same wb5 gi 5 _ _ (.bool false) HI.out)
    have HB2 : Hid (Below w.heap.size w (wb5.setCell ⟨gi, 5, none⟩ (.bool false))) := Lib.hid (HB.out.setCell (by omega) _)
    have HR1b : Hid ((wb5.setCell ⟨gi, 5, none⟩ (.bool false)).heap[_]? = some _) := Lib.hid ((Below.heap_setCell _ _ _ _ (by show ¬ (_ = gi); omega)).trans HR1.out)
    have HR2b : Hid ((wb5.setCell ⟨gi, 5, none⟩ (.bool false)).heap[_]? = some _) := Lib.hid ((Below.heap_setCell _ _ _ _ (by show ¬ (_ = gi); omega)).trans HR2.out)
    have HAb := Lib.hid (HA.out.imp (w' := (wb5.setCell ⟨gi, 5, none⟩ (.bool false))) (fun _ h => h) fun b hh _ => Below.heap_setCell _ _ _ _ (by show ¬ (b = gi); omega))
    have HCb := Lib.hid (HC.out.imp (w' := (wb5.setCell ⟨gi, 5, none⟩ (.bool false))) (fun _ h => h) fun b hh _ => Below.heap_setCell _ _ _ _ (by show ¬ (b = gi); omega))
    have hsz : (wb5.setCell ⟨gi, 5, none⟩ (.bool false)).heap.size = wb5.heap.size := by simp [World.setCell]
    have HSZ := Lib.hid hsz
    clear hsz
    go_wp2_with fail
    clear z0 z1 z2 z3 z4 z5 f5 HI HB HR1 HR2 HA HC
    generalize wb5.setCell ⟨gi, 5, none⟩ (.bool false) = wc5 at *
    clear HSZ
    have HI := HI2
    have HB := HB2
    have HR1 := HR1b
    have HR2 := HR2b
    have HA := HAb
    have HC := HCb
    clear HI2 HB2 HR1b HR2b HAb HCb
    rw [rounds_succ]
    obtain ⟨z0, z1, z2, z3, z4, z5⟩ := row6 HI.out
    go_wp2
    go_ret
    exact ⟨rfl, HB.out⟩
  subst hB0
  rcases Int.lt_trichotomy nA nB with hlt | hlt | hlt
  ·
    have HT := Lib.hid hlt
    clear hlt
    rw [rounds_succ]
    obtain ⟨x0, x1, x2, x3⟩ := row4 HR1.out
    obtain ⟨y0, y1, y2, y3⟩ := row4 HR2.out
    have ix := ix6_0 (.string (⟨#[60]⟩ : ByteArray)) (.string (⟨#[61, 58, 61]⟩ : ByteArray)) (.string (⟨#[62]⟩ : ByteArray)) (.string (⟨#[61, 60]⟩ : ByteArray)) (.string (⟨#[62, 61]⟩ : ByteArray)) (.string (⟨#[61, 92, 61]⟩ : ByteArray))
    have HR : Hid (holdsT (⟨#[60]⟩ : ByteArray) A B = (true, 0, zT)) := Lib.hid (by rw [holds_good hop_0 HEA.out HEB.out, hd_a0 HT.out])
    go_wp2_with fail
    clear ix
    clear x0 x1 x2 x3 y0 y1 y2 y3
    refine (go_HoldsA (⟨#[60]⟩ : ByteArray) A B _ _ _ (by omega) (by omega) F1.out F2.out HA.out.any HC.out.any).mono ?_
    rintro e0 wa0 ⟨v0, rfl, hiq, hbq⟩
    replace HR1 := Lib.hid (row_on HR1.out hbq)
    replace HR2 := Lib.hid (row_on HR2.out hbq)
    replace HI := Lib.hid (row_on HI.out hbq)
    replace HA := Lib.hid (HA.out.below hbq)
    replace HC := Lib.hid (HC.out.below hbq)
    replace HB := Lib.hid (HB.out.trans (hbq.mono HB.out.size))
    rw [HR.out] at hiq
    obtain ⟨q0, rfl, hiq⟩ := hiq
    simp only at hiq ⊢
    obtain ⟨az0, cz0, rfl⟩ := hiq.form
    clear hiq hbq HR
    go_upto_region 13 with fail
    have hbq := below_new wa0 (.cells #[.int .i64 zT.k, .int .i64 zT.n, .string zT.s, .slice az0 zT.args.length cz0] 30 (0, 0))
    have hq := heap_alloc_new wa0 (.cells #[.int .i64 zT.k, .int .i64 zT.n, .string zT.s, .slice az0 zT.args.length cz0] 30 (0, 0))
    have hzq : wa0.heap.size < (wa0.alloc (.cells #[.int .i64 zT.k, .int .i64 zT.n, .string zT.s, .slice az0 zT.args.length cz0] 30 (0, 0))).heap.size := by simp
    replace HR1 := Lib.hid (row_on HR1.out hbq)
    replace HR2 := Lib.hid (row_on HR2.out hbq)
    replace HI := Lib.hid (row_on HI.out hbq)
    replace HA := Lib.hid (HA.out.below hbq)
    replace HC := Lib.hid (HC.out.below hbq)
    replace HB := Lib.hid (HB.out.trans (hbq.mono HB.out.size))
    clear hbq hq
    generalize wa0.alloc (.cells #[.int .i64 zT.k, .int .i64 zT.n, .string zT.s, .slice az0 zT.args.length cz0] 30 (0, 0)) = wb0 at *
    obtain ⟨z0, z1, z2, z3, z4, z5⟩ := row6 HI.out
    have f0 := frozen_of_row _ gi 0 _ _ HI.out
    have HI2 : Hid ((wb0.setCell ⟨gi, 0, none⟩ (.bool true)).heap[gi]? = some (.cells #[.bool true, .bool false, .bool false, .bool false, .bool false, .bool false] 63 (0, 0))) := Lib.hid (by simpa using heap_setCell_same wb0 gi 0 _ _ (.bool true) HI.out)
    have HB2 : Hid (Below w.heap.size w (wb0.setCell ⟨gi, 0, none⟩ (.bool true))) := Lib.hid (HB.out.setCell (by omega) _)
    have HR1b : Hid ((wb0.setCell ⟨gi, 0, none⟩ (.bool true)).heap[_]? = some _) := Lib.hid ((Below.heap_setCell _ _ _ _ (by show ¬ (_ = gi); omega)).trans HR1.out)
    have HR2b : Hid ((wb0.setCell ⟨gi, 0, none⟩ (.bool true)).heap[_]? = some _) := Lib.hid ((Below.heap_setCell _ _ _ _ (by show ¬ (_ = gi); omega)).trans HR2.out)
    have HAb := Lib.hid (HA.out.imp (w' := (wb0.setCell ⟨gi, 0, none⟩ (.bool true))) (fun _ h => h) fun b hh _ => Below.heap_setCell _ _ _ _ (by show ¬ (b = gi); omega))
    have HCb := Lib.hid (HC.out.imp (w' := (wb0.setCell ⟨gi, 0, none⟩ (.bool true))) (fun _ h => h) fun b hh _ => Below.heap_setCell _ _ _ _ (by show ¬ (b = gi); omega))
    have hsz : (wb0.setCell ⟨gi, 0, none⟩ (.bool true)).heap.size = wb0.heap.size := by simp [World.setCell]
    have HSZ := Lib.hid hsz
    clear hsz
    go_wp2_with fail
    clear z0 z1 z2 z3 z4 z5 f0 HI HB HR1 HR2 HA HC
    generalize wb0.setCell ⟨gi, 0, none⟩ (.bool true) = wc0 at *
    clear HSZ
    have HI := HI2
    have HB := HB2
    have HR1 := HR1b
    have HR2 := HR2b
    have HA := HAb
    have HC := HCb
    clear HI2 HB2 HR1b HR2b HAb HCb
    rw [rounds_succ]
    obtain ⟨x0, x1, x2, x3⟩ := row4 HR1.out
    obtain ⟨y0, y1, y2, y3⟩ := row4 HR2.out
    have ix := ix6_1 (.string (⟨#[60]⟩ : ByteArray)) (.string (⟨#[61, 58, 61]⟩ : ByteArray)) (.string (⟨#[62]⟩ : ByteArray)) (.string (⟨#[61, 60]⟩ : ByteArray)) (.string (⟨#[62, 61]⟩ : ByteArray)) (.string (⟨#[61, 92, 61]⟩ : ByteArray))
    have HR : Hid (holdsT (⟨#[61, 58, 61]⟩ : ByteArray) A B = (false, 0, zT)) := Lib.hid (by rw [holds_good hop_1 HEA.out HEB.out, hd_a1 HT.out])
    go_wp2_with fail
    clear ix
    clear x0 x1 x2 x3 y0 y1 y2 y3
    refine (go_HoldsA (⟨#[61, 58, 61]⟩ : ByteArray) A B _ _ _ (by omega) (by omega) F1.out F2.out HA.out.any HC.out.any).mono ?_
    rintro e1 wa1 ⟨v1, rfl, hiq, hbq⟩
    replace HR1 := Lib.hid (row_on HR1.out hbq)
    replace HR2 := Lib.hid (row_on HR2.out hbq)
    replace HI := Lib.hid (row_on HI.out hbq)
    replace HA := Lib.hid (HA.out.below hbq)
    replace HC := Lib.hid (HC.out.below hbq)
    replace HB := Lib.hid (HB.out.trans (hbq.mono HB.out.size))
    rw [HR.out] at hiq
    obtain ⟨q1, rfl, hiq⟩ := hiq
    simp only at hiq ⊢
    obtain ⟨az1, cz1, rfl⟩ := hiq.form
    clear hiq hbq HR
    go_upto_region 13 with fail
    have hbq := below_new wa1 (.cells #[.int .i64 zT.k, .int .i64 zT.n, .string zT.s, .slice az1 zT.args.length cz1] 30 (0, 0))
    have hq := heap_alloc_new wa1 (.cells #[.int .i64 zT.k, .int .i64 zT.n, .string zT.s, .slice az1 zT.args.length cz1] 30 (0, 0))
    have hzq : wa1.heap.size < (wa1.alloc (.cells #[.int .i64 zT.k, .int .i64 zT.n, .string zT.s, .slice az1 zT.args.length cz1] 30 (0, 0))).heap.size := by simp
    replace HR1 := Lib.hid (row_on HR1.out hbq)
    replace HR2 := Lib.hid (row_on HR2.out hbq)
    replace HI := Lib.hid (row_on HI.out hbq)
    replace HA := Lib.hid (HA.out.below hbq)
    replace HC := Lib.hid (HC.out.below hbq)
    replace HB := Lib.hid (HB.out.trans (hbq.mono HB.out.size))
    clear hbq hq
    generalize wa1.alloc (.cells #[.int .i64 zT.k, .int .i64 zT.n, .string zT.s, .slice az1 zT.args.length cz1] 30 (0, 0)) = wb1 at *
    obtain ⟨z0, z1, z2, z3, z4, z5⟩ := row6 HI.out
    have f1 := frozen_of_row _ gi 1 _ _ HI.out
    have HI2 : Hid ((wb1.setCell ⟨gi, 1, none⟩ (.bool false)).heap[gi]? = some (.cells #[.bool true, .bool false, .bool false, .bool false, .bool false, .bool false] 63 (0, 0))) := Lib.hid (by simpa using heap_setCell_same wb1 gi 1 _ _ (.bool false) HI.out)
    have HB2 : Hid (Below w.heap.size w (wb1.setCell ⟨gi, 1, none⟩ (.bool false))) := Lib.hid (HB.out.setCell (by omega) _)
    have HR1b : Hid ((wb1.setCell ⟨gi, 1, none⟩ (.bool false)).heap[_]? = some _) := Lib.hid ((Below.heap_setCell _ _ _ _ (by show ¬ (_ = gi); omega)).trans HR1.out)
    have HR2b : Hid ((wb1.setCell ⟨gi, 1, none⟩ (.bool false)).heap[_]? = some _) := Lib.hid ((Below.heap_setCell _ _ _ _ (by show ¬ (_ = gi); omega)).trans HR2.out)
    have HAb := Lib.hid (HA.out.imp (w' := (wb1.setCell ⟨gi, 1, none⟩ (.bool false))) (fun _ h => h) fun b hh _ => Below.heap_setCell _ _ _ _ (by show ¬ (b = gi); omega))
    have HCb := Lib.hid (HC.out.imp (w' := (wb1.setCell ⟨gi, 1, none⟩ (.bool false))) (fun _ h => h) fun b hh _ => Below.heap_setCell _ _ _ _ (by show ¬ (b = gi); omega))
    have hsz : (wb1.setCell ⟨gi, 1, none⟩ (.bool false)).heap.size = wb1.heap.size := by simp [World.setCell]
    have HSZ := Lib.hid hsz
    clear hsz
    go_wp2_with fail
    clear z0 z1 z2 z3 z4 z5 f1 HI HB HR1 HR2 HA HC
    generalize wb1.setCell ⟨gi, 1, none⟩ (.bool false) = wc1 at *
    clear HSZ
    have HI := HI2
    have HB := HB2
    have HR1 := HR1b
    have HR2 := HR2b
    have HA := HAb
    have HC := HCb
    clear HI2 HB2 HR1b HR2b HAb HCb
    rw [rounds_succ]
    obtain ⟨x0, x1, x2, x3⟩ := row4 HR1.out
    obtain ⟨y0, y1, y2, y3⟩ := row4 HR2.out
    have ix := ix6_2 (.string (⟨#[60]⟩ : ByteArray)) (.string (⟨#[61, 58, 61]⟩ : ByteArray)) (.string (⟨#[62]⟩ : ByteArray)) (.string (⟨#[61, 60]⟩ : ByteArray)) (.string (⟨#[62, 61]⟩ : ByteArray)) (.string (⟨#[61, 92, 61]⟩ : ByteArray))
    have HR : Hid (holdsT (⟨#[62]⟩ : ByteArray) A B = (false, 0, zT)) := Lib.hid (by rw [holds_good hop_2 HEA.out HEB.out, hd_a2 HT.out])
    go_wp2_with fail
    clear ix
    clear x0 x1 x2 x3 y0 y1 y2 y3
    refine (go_HoldsA (⟨#[62]⟩ : ByteArray) A B _ _ _ (by omega) (by omega) F1.out F2.out HA.out.any HC.out.any).mono ?_
    rintro e2 wa2 ⟨v2, rfl, hiq, hbq⟩
    replace HR1 := Lib.hid (row_on HR1.out hbq)
    replace HR2 := Lib.hid (row_on HR2.out hbq)
    replace HI := Lib.hid (row_on HI.out hbq)
    replace HA := Lib.hid (HA.out.below hbq)
    replace HC := Lib.hid (HC.out.below hbq)
    replace HB := Lib.hid (HB.out.trans (hbq.mono HB.out.size))
    rw [HR.out] at hiq
    obtain ⟨q2, rfl, hiq⟩ := hiq
    simp only at hiq ⊢
    obtain ⟨az2, cz2, rfl⟩ := hiq.form
    clear hiq hbq HR
    go_upto_region 13 with fail
    have hbq := below_new wa2 (.cells #[.int .i64 zT.k, .int .i64 zT.n, .string zT.s, .slice az2 zT.args.length cz2] 30 (0, 0))
    have hq := heap_alloc_new wa2 (.cells #[.int .i64 zT.k, .int .i64 zT.n, .string zT.s, .slice az2 zT.args.length cz2] 30 (0, 0))
    have hzq : wa2.heap.size < (wa2.alloc (.cells #[.int .i64 zT.k, .int .i64 zT.n, .string zT.s, .slice az2 zT.args.length cz2] 30 (0, 0))).heap.size := by simp
    replace HR1 := Lib.hid (row_on HR1.out hbq)
    replace HR2 := Lib.hid (row_on HR2.out hbq)
    replace HI := Lib.hid (row_on HI.out hbq)
    replace HA := Lib.hid (HA.out.below hbq)
    replace HC := Lib.hid (HC.out.below hbq)
    replace HB := Lib.hid (HB.out.trans (hbq.mono HB.out.size))
    clear hbq hq
    generalize wa2.alloc (.cells #[.int .i64 zT.k, .int .i64 zT.n, .string zT.s, .slice az2 zT.args.length cz2] 30 (0, 0)) = wb2 at *
    obtain ⟨z0, z1, z2, z3, z4, z5⟩ := row6 HI.out
    have f2 := frozen_of_row _ gi 2 _ _ HI.out
    have HI2 : Hid ((wb2.setCell ⟨gi, 2, none⟩ (.bool false)).heap[gi]? = some (.cells #[.bool true, .bool false, .bool false, .bool false, .bool false, .bool false] 63 (0, 0))) := Lib.hid (by simpa using heap_setCell_same wb2 gi 2 _ _ (.bool false) HI.out)
    have HB2 : Hid (Below w.heap.size w (wb2.setCell ⟨gi, 2, none⟩ (.bool false))) := Lib.hid (HB.out.setCell (by omega) _)
    have HR1b : Hid ((wb2.setCell ⟨gi, 2, none⟩ (.bool false)).heap[_]? = some _) := Lib.hid ((Below.heap_setCell _ _ _ _ (by show ¬ (_ = gi); omega)).trans HR1.out)
    have HR2b : Hid ((wb2.setCell ⟨gi, 2, none⟩ (.bool false)).heap[_]? = some _) := Lib.hid ((Below.heap_setCell _ _ _ _ (by show ¬ (_ = gi); omega)).trans HR2.out)
    have HAb := Lib.hid (HA.out.imp (w' := (wb2.setCell ⟨gi, 2, none⟩ (.bool false))) (fun _ h => h) fun b hh _ => Below.heap_setCell _ _ _ _ (by show ¬ (b = gi); omega))
    have HCb := Lib.hid (HC.out.imp (w' := (wb2.setCell ⟨gi, 2, none⟩ (.bool false))) (fun _ h => h) fun b hh _ => Below.heap_setCell _ _ _ _ (by show ¬ (b = gi); omega))
    have hsz : (wb2.setCell ⟨gi, 2, none⟩ (.bool false)).heap.size = wb2.heap.size := by simp [World.setCell]
    have HSZ := Lib.hid hsz
    clear hsz
    go_wp2_with fail
    clear z0 z1 z2 z3 z4 z5 f2 HI HB HR1 HR2 HA HC
    generalize wb2.setCell ⟨gi, 2, none⟩ (.bool false) = wc2 at *
    clear HSZ
    have HI := HI2
    have HB := HB2
    have HR1 := HR1b
    have HR2 := HR2b
    have HA := HAb
    have HC := HCb
    clear HI2 HB2 HR1b HR2b HAb HCb
    rw [rounds_succ]
    obtain ⟨x0, x1, x2, x3⟩ := row4 HR1.out
    obtain ⟨y0, y1, y2, y3⟩ := row4 HR2.out
    have ix := ix6_3 (.string (⟨#[60]⟩ : ByteArray)) (.string (⟨#[61, 58, 61]⟩ : ByteArray)) (.string (⟨#[62]⟩ : ByteArray)) (.string (⟨#[61, 60]⟩ : ByteArray)) (.string (⟨#[62, 61]⟩ : ByteArray)) (.string (⟨#[61, 92, 61]⟩ : ByteArray))
    have HR : Hid (holdsT (⟨#[61, 60]⟩ : ByteArray) A B = (true, 0, zT)) := Lib.hid (by rw [holds_good hop_3 HEA.out HEB.out, hd_a3 HT.out])
    go_wp2_with fail
    clear ix
    clear x0 x1 x2 x3 y0 y1 y2 y3
    refine (go_HoldsA (⟨#[61, 60]⟩ : ByteArray) A B _ _ _ (by omega) (by omega) F1.out F2.out HA.out.any HC.out.any).mono ?_
    rintro e3 wa3 ⟨v3, rfl, hiq, hbq⟩
    replace HR1 := Lib.hid (row_on HR1.out hbq)
    replace HR2 := Lib.hid (row_on HR2.out hbq)
    replace HI := Lib.hid (row_on HI.out hbq)
    replace HA := Lib.hid (HA.out.below hbq)
    replace HC := Lib.hid (HC.out.below hbq)
    replace HB := Lib.hid (HB.out.trans (hbq.mono HB.out.size))
    rw [HR.out] at hiq
    obtain ⟨q3, rfl, hiq⟩ := hiq
    simp only at hiq ⊢
    obtain ⟨az3, cz3, rfl⟩ := hiq.form
    clear hiq hbq HR
    go_upto_region 13 with fail
    have hbq := below_new wa3 (.cells #[.int .i64 zT.k, .int .i64 zT.n, .string zT.s, .slice az3 zT.args.length cz3] 30 (0, 0))
    have hq := heap_alloc_new wa3 (.cells #[.int .i64 zT.k, .int .i64 zT.n, .string zT.s, .slice az3 zT.args.length cz3] 30 (0, 0))
    have hzq : wa3.heap.size < (wa3.alloc (.cells #[.int .i64 zT.k, .int .i64 zT.n, .string zT.s, .slice az3 zT.args.length cz3] 30 (0, 0))).heap.size := by simp
    replace HR1 := Lib.hid (row_on HR1.out hbq)
    replace HR2 := Lib.hid (row_on HR2.out hbq)
    replace HI := Lib.hid (row_on HI.out hbq)
    replace HA := Lib.hid (HA.out.below hbq)
    replace HC := Lib.hid (HC.out.below hbq)
    replace HB := Lib.hid (HB.out.trans (hbq.mono HB.out.size))
    clear hbq hq
    generalize wa3.alloc (.cells #[.int .i64 zT.k, .int .i64 zT.n, .string zT.s, .slice az3 zT.args.length cz3] 30 (0, 0)) = wb3 at *
    obtain ⟨z0, z1, z2, z3, z4, z5⟩ := row6 HI.out
    have f3 := frozen_of_row _ gi 3 _ _ HI.out
    have HI2 : Hid ((wb3.setCell ⟨gi, 3, none⟩ (.bool true)).heap[gi]? = some (.cells #[.bool true, .bool false, .bool false, .bool true, .bool false, .bool false] 63 (0, 0))) := Lib.hid (by simpa using heap_setCell_same wb3 gi 3 _ _ (.bool true) HI.out)
    have HB2 : Hid (Below w.heap.size w (wb3.setCell ⟨gi, 3, none⟩ (.bool true))) := Lib.hid (HB.out.setCell (by omega) _)
    have HR1b : Hid ((wb3.setCell ⟨gi, 3, none⟩ (.bool true)).heap[_]? = some _) := Lib.hid ((Below.heap_setCell _ _ _ _ (by show ¬ (_ = gi); omega)).trans HR1.out)
    have HR2b : Hid ((wb3.setCell ⟨gi, 3, none⟩ (.bool true)).heap[_]? = some _) := Lib.hid ((Below.heap_setCell _ _ _ _ (by show ¬ (_ = gi); omega)).trans HR2.out)
    have HAb := Lib.hid (HA.out.imp (w' := (wb3.setCell ⟨gi, 3, none⟩ (.bool true))) (fun _ h => h) fun b hh _ => Below.heap_setCell _ _ _ _ (by show ¬ (b = gi); omega))
    have HCb := Lib.hid (HC.out.imp (w' := (wb3.setCell ⟨gi, 3, none⟩ (.bool true))) (fun _ h => h) fun b hh _ => Below.heap_setCell _ _ _ _ (by show ¬ (b = gi); omega))
    have hsz : (wb3.setCell ⟨gi, 3, none⟩ (.bool true)).heap.size = wb3.heap.size := by simp [World.setCell]
    have HSZ := Lib.hid hsz
    clear hsz
    go_wp2_with fail
    clear z0 z1 z2 z3 z4 z5 f3 HI HB HR1 HR2 HA HC
    generalize wb3.setCell ⟨gi, 3, none⟩ (.bool true) = wc3 at *
    clear HSZ
    have HI := HI2
    have HB := HB2
    have HR1 := HR1b
    have HR2 := HR2b
    have HA := HAb
    have HC := HCb
    clear HI2 HB2 HR1b HR2b HAb HCb
    rw [rounds_succ]
    obtain ⟨x0, x1, x2, x3⟩ := row4 HR1.out
    obtain ⟨y0, y1, y2, y3⟩ := row4 HR2.out
    have ix := ix6_4 (.string (⟨#[60]⟩ : ByteArray)) (.string (⟨#[61, 58, 61]⟩ : ByteArray)) (.string (⟨#[62]⟩ : ByteArray)) (.string (⟨#[61, 60]⟩ : ByteArray)) (.string (⟨#[62, 61]⟩ : ByteArray)) (.string (⟨#[61, 92, 61]⟩ : ByteArray))
    have HR : Hid (holdsT (⟨#[62, 61]⟩ : ByteArray) A B = (false, 0, zT)) := Lib.hid (by rw [holds_good hop_4 HEA.out HEB.out, hd_a4 HT.out])
    go_wp2_with fail
    clear ix
    clear x0 x1 x2 x3 y0 y1 y2 y3
    refine (go_HoldsA (⟨#[62, 61]⟩ : ByteArray) A B _ _ _ (by omega) (by omega) F1.out F2.out HA.out.any HC.out.any).mono ?_
    rintro e4 wa4 ⟨v4, rfl, hiq, hbq⟩
    replace HR1 := Lib.hid (row_on HR1.out hbq)
    replace HR2 := Lib.hid (row_on HR2.out hbq)
    replace HI := Lib.hid (row_on HI.out hbq)
    replace HA := Lib.hid (HA.out.below hbq)
    replace HC := Lib.hid (HC.out.below hbq)
    replace HB := Lib.hid (HB.out.trans (hbq.mono HB.out.size))
    rw [HR.out] at hiq
    obtain ⟨q4, rfl, hiq⟩ := hiq
    simp only at hiq ⊢
    obtain ⟨az4, cz4, rfl⟩ := hiq.form
    clear hiq hbq HR
    go_upto_region 13 with fail
    have hbq := below_new wa4 (.cells #[.int .i64 zT.k, .int .i64 zT.n, .string zT.s, .slice az4 zT.args.length cz4] 30 (0, 0))
    have hq := heap_alloc_new wa4 (.cells #[.int .i64 zT.k, .int .i64 zT.n, .string zT.s, .slice az4 zT.args.length cz4] 30 (0, 0))
    have hzq : wa4.heap.size < (wa4.alloc (.cells #[.int .i64 zT.k, .int .i64 zT.n, .string zT.s, .slice az4 zT.args.length cz4] 30 (0, 0))).heap.size := by simp
    replace HR1 := Lib.hid (row_on HR1.out hbq)
    replace HR2 := Lib.hid (row_on HR2.out hbq)
    replace HI := Lib.hid (row_on HI.out hbq)
    replace HA := Lib.hid (HA.out.below hbq)
    replace HC := Lib.hid (HC.out.below hbq)
    replace HB := Lib.hid (HB.out.trans (hbq.mono HB.out.size))
    clear hbq hq
    generalize wa4.alloc (.cells #[.int .i64 zT.k, .int .i64 zT.n, .string zT.s, .slice az4 zT.args.length cz4] 30 (0, 0)) = wb4 at *
    obtain ⟨z0, z1, z2, z3, z4, z5⟩ := row6 HI.out
    have f4 := frozen_of_row _ gi 4 _ _ HI.out
    have HI2 : Hid ((wb4.setCell ⟨gi, 4, none⟩ (.bool false)).heap[gi]? = some (.cells #[.bool true, .bool false, .bool false, .bool true, .bool false, .bool false] 63 (0, 0))) := Lib.hid (by simpa using heap_setCell_same wb4 gi 4 _ _ (.bool false) HI.out)
    have HB2 : Hid (Below w.heap.size w (wb4.setCell ⟨gi, 4, none⟩ (.bool false))) := Lib.hid (HB.out.setCell (by omega) _)
    have HR1b : Hid ((wb4.setCell ⟨gi, 4, none⟩ (.bool false)).heap[_]? = some _) := Lib.hid ((Below.heap_setCell _ _ _ _ (by show ¬ (_ = gi); omega)).trans HR1.out)
    have HR2b : Hid ((wb4.setCell ⟨gi, 4, none⟩ (.bool false)).heap[_]? = some _) := Lib.hid ((Below.heap_setCell _ _ _ _ (by show ¬ (_ = gi); omega)).trans HR2.out)
    have HAb := Lib.hid (HA.out.imp (w' := (wb4.setCell ⟨gi, 4, none⟩ (.bool false))) (fun _ h => h) fun b hh _ => Below.heap_setCell _ _ _ _ (by show ¬ (b = gi); omega))
    have HCb := Lib.hid (HC.out.imp (w' := (wb4.setCell ⟨gi, 4, none⟩ (.bool false))) (fun _ h => h) fun b hh _ => Below.heap_setCell _ _ _ _ (by show ¬ (b = gi); omega))
    have hsz : (wb4.setCell ⟨gi, 4, none⟩ (.bool false)).heap.size = wb4.heap.size := by simp [World.setCell]
    have HSZ := Lib.hid hsz
    clear hsz
    go_wp2_with fail
    clear z0 z1 z2 z3 z4 z5 f4 HI HB HR1 HR2 HA HC
    generalize wb4.setCell ⟨gi, 4, none⟩ (.bool false) = wc4 at *
    clear HSZ
    have HI := HI2
    have HB := HB2
    have HR1 := HR1b
    have HR2 := HR2b
    have HA := HAb
    have HC := HCb
    clear HI2 HB2 HR1b HR2b HAb HCb
    rw [rounds_succ]
    obtain ⟨x0, x1, x2, x3⟩ := row4 HR1.out
    obtain ⟨y0, y1, y2, y3⟩ := row4 HR2.out
    have ix := ix6_5 (.string (⟨#[60]⟩ : ByteArray)) (.string (⟨#[61, 58, 61]⟩ : ByteArray)) (.string (⟨#[62]⟩ : ByteArray)) (.string (⟨#[61, 60]⟩ : ByteArray)) (.string (⟨#[62, 61]⟩ : ByteArray)) (.string (⟨#[61, 92, 61]⟩ : ByteArray))
    have HR : Hid (holdsT (⟨#[61, 92, 61]⟩ : ByteArray) A B = (true, 0, zT)) := Lib.hid (by rw [holds_good hop_5 HEA.out HEB.out, hd_a5 HT.out])
    go_wp2_with fail
    clear ix
    clear x0 x1 x2 x3 y0 y1 y2 y3
    refine (go_HoldsA (⟨#[61, 92, 61]⟩ : ByteArray) A B _ _ _ (by omega) (by omega) F1.out F2.out HA.out.any HC.out.any).mono ?_
    rintro e5 wa5 ⟨v5, rfl, hiq, hbq⟩
    replace HR1 := Lib.hid (row_on HR1.out hbq)
    replace HR2 := Lib.hid (row_on HR2.out hbq)
    replace HI := Lib.hid (row_on HI.out hbq)
    replace HA := Lib.hid (HA.out.below hbq)
    replace HC := Lib.hid (HC.out.below hbq)
    replace HB := Lib.hid (HB.out.trans (hbq.mono HB.out.size))
    rw [HR.out] at hiq
    obtain ⟨q5, rfl, hiq⟩ := hiq
    simp only at hiq ⊢
    obtain ⟨az5, cz5, rfl⟩ := hiq.form
    clear hiq hbq HR
    go_upto_region 13 with fail
    have hbq := below_new wa5 (.cells #[.int .i64 zT.k, .int .i64 zT.n, .string zT.s, .slice az5 zT.args.length cz5] 30 (0, 0))
    have hq := heap_alloc_new wa5 (.cells #[.int .i64 zT.k, .int .i64 zT.n, .string zT.s, .slice az5 zT.args.length cz5] 30 (0, 0))
    have hzq : wa5.heap.size < (wa5.alloc (.cells #[.int .i64 zT.k, .int .i64 zT.n, .string zT.s, .slice az5 zT.args.length cz5] 30 (0, 0))).heap.size := by simp
    replace HR1 := Lib.hid (row_on HR1.out hbq)
    replace HR2 := Lib.hid (row_on HR2.out hbq)
    replace HI := Lib.hid (row_on HI.out hbq)
    replace HA := Lib.hid (HA.out.below hbq)
    replace HC := Lib.hid (HC.out.below hbq)
    replace HB := Lib.hid (HB.out.trans (hbq.mono HB.out.size))
    clear hbq hq
    generalize wa5.alloc (.cells #[.int .i64 zT.k, .int .i64 zT.n, .string zT.s, .slice az5 zT.args.length cz5] 30 (0, 0)) = wb5 at *
    obtain ⟨z0, z1, z2, z3, z4, z5⟩ := row6 HI.out
    have f5 := frozen_of_row _ gi 5 _ _ HI.out
    have HI2 : Hid ((wb5.setCell ⟨gi, 5, none⟩ (.bool true)).heap[gi]? = some (.cells #[.bool true, .bool false, .bool false, .bool true, .bool false, .bool true] 63 (0, 0))) := Lib.hid (by simpa using heap_setCell_same wb5 gi 5 _ _ (.bool true) HI.out)
    have HB2 : Hid (Below w.heap.size w (wb5.setCell ⟨gi, 5, none⟩ (.bool true))) := Lib.hid (HB.out.setCell (by omega) _)
    have HR1b : Hid ((wb5.setCell ⟨gi, 5, none⟩ (.bool true)).heap[_]? = some _) := Lib.hid ((Below.heap_setCell _ _ _ _ (by show ¬ (_ = gi); omega)).trans HR1.out)
    have HR2b : Hid ((wb5.setCell ⟨gi, 5, none⟩ (.bool true)).heap[_]? = some _) := Lib.hid ((Below.heap_setCell _ _ _ _ (by show ¬ (_ = gi); omega)).trans HR2.out)
    have HAb := Lib.hid (HA.out.imp (w' := (wb5.setCell ⟨gi, 5, none⟩ (.bool true))) (fun _ h => h) fun b hh _ => Below.heap_setCell _ _ _ _ (by show ¬ (b = gi); omega))
    have HCb := Lib.hid (HC.out.imp (w' := (wb5.setCell ⟨gi, 5, none⟩ (.bool true))) (fun _ h => h) fun b hh _ => Below.heap_setCell _ _ _ _ (by show ¬ (b = gi); omega))
    have hsz : (wb5.setCell ⟨gi, 5, none⟩ (.bool true)).heap.size = wb5.heap.size := by simp [World.setCell]
    have HSZ := Lib.hid hsz
    clear hsz
    go_wp2_with fail
    clear z0 z1 z2 z3 z4 z5 f5 HI HB HR1 HR2 HA HC
    generalize wb5.setCell ⟨gi, 5, none⟩ (.bool true) = wc5 at *
    clear HSZ
    have HI := HI2
    have HB := HB2
    have HR1 := HR1b
    have HR2 := HR2b
    have HA := HAb
    have HC := HCb
    clear HI2 HB2 HR1b HR2b HAb HCb
    rw [rounds_succ]
    obtain ⟨z0, z1, z2, z3, z4, z5⟩ := row6 HI.out
    go_wp2_with fail
    refine wp_loop_rounds 4 ?_
    rw [rounds_succ]
    go_wp2_with fail
    rw [rounds_succ]
    go_wp2_with fail
    rw [rounds_succ]
    go_wp2_with fail
    rw [rounds_succ]
    go_wp2_with fail
    go_ret
    exact ⟨rfl, HB.out⟩
  ·
    have HT := Lib.hid hlt
    clear hlt
    rw [rounds_succ]
    obtain ⟨x0, x1, x2, x3⟩ := row4 HR1.out
    obtain ⟨y0, y1, y2, y3⟩ := row4 HR2.out
    have ix := ix6_0 (.string (⟨#[60]⟩ : ByteArray)) (.string (⟨#[61, 58, 61]⟩ : ByteArray)) (.string (⟨#[62]⟩ : ByteArray)) (.string (⟨#[61, 60]⟩ : ByteArray)) (.string (⟨#[62, 61]⟩ : ByteArray)) (.string (⟨#[61, 92, 61]⟩ : ByteArray))
    have HR : Hid (holdsT (⟨#[60]⟩ : ByteArray) A B = (false, 0, zT)) := Lib.hid (by rw [holds_good hop_0 HEA.out HEB.out, hd_b0 HT.out])
    go_wp2_with fail
    clear ix
    clear x0 x1 x2 x3 y0 y1 y2 y3
    refine (go_HoldsA (⟨#[60]⟩ : ByteArray) A B _ _ _ (by omega) (by omega) F1.out F2.out HA.out.any HC.out.any).mono ?_
    rintro e0 wa0 ⟨v0, rfl, hiq, hbq⟩
    replace HR1 := Lib.hid (row_on HR1.out hbq)
    replace HR2 := Lib.hid (row_on HR2.out hbq)
    replace HI := Lib.hid (row_on HI.out hbq)
    replace HA := Lib.hid (HA.out.below hbq)
    replace HC := Lib.hid (HC.out.below hbq)
    replace HB := Lib.hid (HB.out.trans (hbq.mono HB.out.size))
    rw [HR.out] at hiq
    obtain ⟨q0, rfl, hiq⟩ := hiq
    simp only at hiq ⊢
    obtain ⟨az0, cz0, rfl⟩ := hiq.form
    clear hiq hbq HR
    go_upto_region 13 with fail
    have hbq := below_new wa0 (.cells #[.int .i64 zT.k, .int .i64 zT.n, .string zT.s, .slice az0 zT.args.length cz0] 30 (0, 0))
    have hq := heap_alloc_new wa0 (.cells #[.int .i64 zT.k, .int .i64 zT.n, .string zT.s, .slice az0 zT.args.length cz0] 30 (0, 0))
    have hzq : wa0.heap.size < (wa0.alloc (.cells #[.int .i64 zT.k, .int .i64 zT.n, .string zT.s, .slice az0 zT.args.length cz0] 30 (0, 0))).heap.size := by simp
    replace HR1 := Lib.hid (row_on HR1.out hbq)
    replace HR2 := Lib.hid (row_on HR2.out hbq)
    replace HI := Lib.hid (row_on HI.out hbq)
    replace HA := Lib.hid (HA.out.below hbq)
    replace HC := Lib.hid (HC.out.below hbq)
    replace HB := Lib.hid (HB.out.trans (hbq.mono HB.out.size))
    clear hbq hq
    generalize wa0.alloc (.cells #[.int .i64 zT.k, .int .i64 zT.n, .string zT.s, .slice az0 zT.args.length cz0] 30 (0, 0)) = wb0 at *
    obtain ⟨z0, z1, z2, z3, z4, z5⟩ := row6 HI.out
    have f0 := frozen_of_row _ gi 0 _ _ HI.out
    have HI2 : Hid ((wb0.setCell ⟨gi, 0, none⟩ (.bool false)).heap[gi]? = some (.cells #[.bool false, .bool false, .bool false, .bool false, .bool false, .bool false] 63 (0, 0))) := Lib.hid (by simpa using heap_setCell_same wb0 gi 0 _ _ (.bool false) HI.out)
    have HB2 : Hid (Below w.heap.size w (wb0.setCell ⟨gi, 0, none⟩ (.bool false))) := Lib.hid (HB.out.setCell (by omega) _)
    have HR1b : Hid ((wb0.setCell ⟨gi, 0, none⟩ (.bool false)).heap[_]? = some _) := Lib.hid ((Below.heap_setCell _ _ _ _ (by show ¬ (_ = gi); omega)).trans HR1.out)
    have HR2b : Hid ((wb0.setCell ⟨gi, 0, none⟩ (.bool false)).heap[_]? = some _) := Lib.hid ((Below.heap_setCell _ _ _ _ (by show ¬ (_ = gi); omega)).trans HR2.out)
    have HAb := Lib.hid (HA.out.imp (w' := (wb0.setCell ⟨gi, 0, none⟩ (.bool false))) (fun _ h => h) fun b hh _ => Below.heap_setCell _ _ _ _ (by show ¬ (b = gi); omega))
    have HCb := Lib.hid (HC.out.imp (w' := (wb0.setCell ⟨gi, 0, none⟩ (.bool false))) (fun _ h => h) fun b hh _ => Below.heap_setCell _ _ _ _ (by show ¬ (b = gi); omega))
    have hsz : (wb0.setCell ⟨gi, 0, none⟩ (.bool false)).heap.size = wb0.heap.size := by simp [World.setCell]
    have HSZ := Lib.hid hsz
    clear hsz
    go_wp2_with fail
    clear z0 z1 z2 z3 z4 z5 f0 HI HB HR1 HR2 HA HC
    generalize wb0.setCell ⟨gi, 0, none⟩ (.bool false) = wc0 at *
    clear HSZ
    have HI := HI2
    have HB := HB2
    have HR1 := HR1b
    have HR2 := HR2b
    have HA := HAb
    have HC := HCb
    clear HI2 HB2 HR1b HR2b HAb HCb
    rw [rounds_succ]
    obtain ⟨x0, x1, x2, x3⟩ := row4 HR1.out
    obtain ⟨y0, y1, y2, y3⟩ := row4 HR2.out
    have ix := ix6_1 (.string (⟨#[60]⟩ : ByteArray)) (.string (⟨#[61, 58, 61]⟩ : ByteArray)) (.string (⟨#[62]⟩ : ByteArray)) (.string (⟨#[61, 60]⟩ : ByteArray)) (.string (⟨#[62, 61]⟩ : ByteArray)) (.string (⟨#[61, 92, 61]⟩ : ByteArray))
    have HR : Hid (holdsT (⟨#[61, 58, 61]⟩ : ByteArray) A B = (true, 0, zT)) := Lib.hid (by rw [holds_good hop_1 HEA.out HEB.out, hd_b1 HT.out])
    go_wp2_with fail
    clear ix
    clear x0 x1 x2 x3 y0 y1 y2 y3
    refine (go_HoldsA (⟨#[61, 58, 61]⟩ : ByteArray) A B _ _ _ (by omega) (by omega) F1.out F2.out HA.out.any HC.out.any).mono ?_
    rintro e1 wa1 ⟨v1, rfl, hiq, hbq⟩
    replace HR1 := Lib.hid (row_on HR1.out hbq)
    replace HR2 := Lib.hid (row_on HR2.out hbq)
    replace HI := Lib.hid (row_on HI.out hbq)
    replace HA := Lib.hid (HA.out.below hbq)
    replace HC := Lib.hid (HC.out.below hbq)
    replace HB := Lib.hid (HB.out.trans (hbq.mono HB.out.size))
    rw [HR.out] at hiq
    obtain ⟨q1, rfl, hiq⟩ := hiq
    simp only at hiq ⊢
    obtain ⟨az1, cz1, rfl⟩ := hiq.form
    clear hiq hbq HR
    go_upto_region 13 with fail
    have hbq := below_new wa1 (.cells #[.int .i64 zT.k, .int .i64 zT.n, .string zT.s, .slice az1 zT.args.length cz1] 30 (0, 0))
    have hq := heap_alloc_new wa1 (.cells #[.int .i64 zT.k, .int .i64 zT.n, .string zT.s, .slice az1 zT.args.length cz1] 30 (0, 0))
    have hzq : wa1.heap.size < (wa1.alloc (.cells #[.int .i64 zT.k, .int .i64 zT.n, .string zT.s, .slice az1 zT.args.length cz1] 30 (0, 0))).heap.size := by simp
    replace HR1 := Lib.hid (row_on HR1.out hbq)
    replace HR2 := Lib.hid (row_on HR2.out hbq)
    replace HI := Lib.hid (row_on HI.out hbq)
    replace HA := Lib.hid (HA.out.below hbq)
    replace HC := Lib.hid (HC.out.below hbq)
    replace HB := Lib.hid (HB.out.trans (hbq.mono HB.out.size))
    clear hbq hq
    generalize wa1.alloc (.cells #[.int .i64 zT.k, .int .i64 zT.n, .string zT.s, .slice az1 zT.args.length cz1] 30 (0, 0)) = wb1 at *
    obtain ⟨z0, z1, z2, z3, z4, z5⟩ := row6 HI.out
    have f1 := frozen_of_row _ gi 1 _ _ HI.out
    have HI2 : Hid ((wb1.setCell ⟨gi, 1, none⟩ (.bool true)).heap[gi]? = some (.cells #[.bool false, .bool true, .bool false, .bool false, .bool false, .bool false] 63 (0, 0))) := Lib.hid (by simpa using heap_setCell_same wb1 gi 1 _ _ (.bool true) HI.out)
    have HB2 : Hid (Below w.heap.size w (wb1.setCell ⟨gi, 1, none⟩ (.bool true))) := Lib.hid (HB.out.setCell (by omega) _)
    have HR1b : Hid ((wb1.setCell ⟨gi, 1, none⟩ (.bool true)).heap[_]? = some _) := Lib.hid ((Below.heap_setCell _ _ _ _ (by show ¬ (_ = gi); omega)).trans HR1.out)
    have HR2b : Hid ((wb1.setCell ⟨gi, 1, none⟩ (.bool true)).heap[_]? = some _) := Lib.hid ((Below.heap_setCell _ _ _ _ (by show ¬ (_ = gi); omega)).trans HR2.out)
    have HAb := Lib.hid (HA.out.imp (w' := (wb1.setCell ⟨gi, 1, none⟩ (.bool true))) (fun _ h => h) fun b hh _ => Below.heap_setCell _ _ _ _ (by show ¬ (b = gi); omega))
    have HCb := Lib.hid (HC.out.imp (w' := (wb1.setCell ⟨gi, 1, none⟩ (.bool true))) (fun _ h => h) fun b hh _ => Below.heap_setCell _ _ _ _ (by show ¬ (b = gi); omega))
    have hsz : (wb1.setCell ⟨gi, 1, none⟩ (.bool true)).heap.size = wb1.heap.size := by simp [World.setCell]
    have HSZ := Lib.hid hsz
    clear hsz
    go_wp2_with fail
    clear z0 z1 z2 z3 z4 z5 f1 HI HB HR1 HR2 HA HC
    generalize wb1.setCell ⟨gi, 1, none⟩ (.bool true) = wc1 at *
    clear HSZ
    have HI := HI2
    have HB := HB2
    have HR1 := HR1b
    have HR2 := HR2b
    have HA := HAb
    have HC := HCb
    clear HI2 HB2 HR1b HR2b HAb HCb
    rw [rounds_succ]
    obtain ⟨x0, x1, x2, x3⟩ := row4 HR1.out
    obtain ⟨y0, y1, y2, y3⟩ := row4 HR2.out
    have ix := ix6_2 (.string (⟨#[60]⟩ : ByteArray)) (.string (⟨#[61, 58, 61]⟩ : ByteArray)) (.string (⟨#[62]⟩ : ByteArray)) (.string (⟨#[61, 60]⟩ : ByteArray)) (.string (⟨#[62, 61]⟩ : ByteArray)) (.string (⟨#[61, 92, 61]⟩ : ByteArray))
    have HR : Hid (holdsT (⟨#[62]⟩ : ByteArray) A B = (false, 0, zT)) := Lib.hid (by rw [holds_good hop_2 HEA.out HEB.out, hd_b2 HT.out])
    go_wp2_with fail
    clear ix
    clear x0 x1 x2 x3 y0 y1 y2 y3
    refine (go_HoldsA (⟨#[62]⟩ : ByteArray) A B _ _ _ (by omega) (by omega) F1.out F2.out HA.out.any HC.out.any).mono ?_
    rintro e2 wa2 ⟨v2, rfl, hiq, hbq⟩
    replace HR1 := Lib.hid (row_on HR1.out hbq)
    replace HR2 := Lib.hid (row_on HR2.out hbq)
    replace HI := Lib.hid (row_on HI.out hbq)
    replace HA := Lib.hid (HA.out.below hbq)
    replace HC := Lib.hid (HC.out.below hbq)
    replace HB := Lib.hid (HB.out.trans (hbq.mono HB.out.size))
    rw [HR.out] at hiq
    obtain ⟨q2, rfl, hiq⟩ := hiq
    simp only at hiq ⊢
    obtain ⟨az2, cz2, rfl⟩ := hiq.form
    clear hiq hbq HR
    go_upto_region 13 with fail
    have hbq := below_new wa2 (.cells #[.int .i64 zT.k, .int .i64 zT.n, .string zT.s, .slice az2 zT.args.length cz2] 30 (0, 0))
    have hq := heap_alloc_new wa2 (.cells #[.int .i64 zT.k, .int .i64 zT.n, .string zT.s, .slice az2 zT.args.length cz2] 30 (0, 0))
    have hzq : wa2.heap.size < (wa2.alloc (.cells #[.int .i64 zT.k, .int .i64 zT.n, .string zT.s, .slice az2 zT.args.length cz2] 30 (0, 0))).heap.size := by simp
    replace HR1 := Lib.hid (row_on HR1.out hbq)
    replace HR2 := Lib.hid (row_on HR2.out hbq)
    replace HI := Lib.hid (row_on HI.out hbq)
    replace HA := Lib.hid (HA.out.below hbq)
    replace HC := Lib.hid (HC.out.below hbq)
    replace HB := Lib.hid (HB.out.trans (hbq.mono HB.out.size))
    clear hbq hq
    generalize wa2.alloc (.cells #[.int .i64 zT.k, .int .i64 zT.n, .string zT.s, .slice az2 zT.args.length cz2] 30 (0, 0)) = wb2 at *
    obtain ⟨z0, z1, z2, z3, z4, z5⟩ := row6 HI.out
    have f2 := frozen_of_row _ gi 2 _ _ HI.out
    have HI2 : Hid ((wb2.setCell ⟨gi, 2, none⟩ (.bool false)).heap[gi]? = some (.cells #[.bool false, .bool true, .bool false, .bool false, .bool false, .bool false] 63 (0, 0))) := Lib.hid (by simpa using heap_setCell_same wb2 gi 2 _ _ (.bool false) HI.out)
    have HB2 : Hid (Below w.heap.size w (wb2.setCell ⟨gi, 2, none⟩ (.bool false))) := Lib.hid (HB.out.setCell (by omega) _)
    have HR1b : Hid ((wb2.setCell ⟨gi, 2, none⟩ (.bool false)).heap[_]? = some _) := Lib.hid ((Below.heap_setCell _ _ _ _ (by show ¬ (_ = gi); omega)).trans HR1.out)
    have HR2b : Hid ((wb2.setCell ⟨gi, 2, none⟩ (.bool false)).heap[_]? = some _) := Lib.hid ((Below.heap_setCell _ _ _ _ (by show ¬ (_ = gi); omega)).trans HR2.out)
    have HAb := Lib.hid (HA.out.imp (w' := (wb2.setCell ⟨gi, 2, none⟩ (.bool false))) (fun _ h => h) fun b hh _ => Below.heap_setCell _ _ _ _ (by show ¬ (b = gi); omega))
    have HCb := Lib.hid (HC.out.imp (w' := (wb2.setCell ⟨gi, 2, none⟩ (.bool false))) (fun _ h => h) fun b hh _ => Below.heap_setCell _ _ _ _ (by show ¬ (b = gi); omega))
    have hsz : (wb2.setCell ⟨gi, 2, none⟩ (.bool false)).heap.size = wb2.heap.size := by simp [World.setCell]
    have HSZ := Lib.hid hsz
    clear hsz
    go_wp2_with fail
    clear z0 z1 z2 z3 z4 z5 f2 HI HB HR1 HR2 HA HC
    generalize wb2.setCell ⟨gi, 2, none⟩ (.bool false) = wc2 at *
    clear HSZ
    have HI := HI2
    have HB := HB2
    have HR1 := HR1b
    have HR2 := HR2b
    have HA := HAb
    have HC := HCb
    clear HI2 HB2 HR1b HR2b HAb HCb
    rw [rounds_succ]
    obtain ⟨x0, x1, x2, x3⟩ := row4 HR1.out
    obtain ⟨y0, y1, y2, y3⟩ := row4 HR2.out
    have ix := ix6_3 (.string (⟨#[60]⟩ : ByteArray)) (.string (⟨#[61, 58, 61]⟩ : ByteArray)) (.string (⟨#[62]⟩ : ByteArray)) (.string (⟨#[61, 60]⟩ : ByteArray)) (.string (⟨#[62, 61]⟩ : ByteArray)) (.string (⟨#[61, 92, 61]⟩ : ByteArray))
    have HR : Hid (holdsT (⟨#[61, 60]⟩ : ByteArray) A B = (true, 0, zT)) := Lib.hid (by rw [holds_good hop_3 HEA.out HEB.out, hd_b3 HT.out])
    go_wp2_with fail
    clear ix
    clear x0 x1 x2 x3 y0 y1 y2 y3
    refine (go_HoldsA (⟨#[61, 60]⟩ : ByteArray) A B _ _ _ (by omega) (by omega) F1.out F2.out HA.out.any HC.out.any).mono ?_
    rintro e3 wa3 ⟨v3, rfl, hiq, hbq⟩
    replace HR1 := Lib.hid (row_on HR1.out hbq)
    replace HR2 := Lib.hid (row_on HR2.out hbq)
    replace HI := Lib.hid (row_on HI.out hbq)
    replace HA := Lib.hid (HA.out.below hbq)
    replace HC := Lib.hid (HC.out.below hbq)
    replace HB := Lib.hid (HB.out.trans (hbq.mono HB.out.size))
    rw [HR.out] at hiq
    obtain ⟨q3, rfl, hiq⟩ := hiq
    simp only at hiq ⊢
    obtain ⟨az3, cz3, rfl⟩ := hiq.form
    clear hiq hbq HR
    go_upto_region 13 with fail
    have hbq := below_new wa3 (.cells #[.int .i64 zT.k, .int .i64 zT.n, .string zT.s, .slice az3 zT.args.length cz3] 30 (0, 0))
    have hq := heap_alloc_new wa3 (.cells #[.int .i64 zT.k, .int .i64 zT.n, .string zT.s, .slice az3 zT.args.length cz3] 30 (0, 0))
    have hzq : wa3.heap.size < (wa3.alloc (.cells #[.int .i64 zT.k, .int .i64 zT.n, .string zT.s, .slice az3 zT.args.length cz3] 30 (0, 0))).heap.size := by simp
    replace HR1 := Lib.hid (row_on HR1.out hbq)
    replace HR2 := Lib.hid (row_on HR2.out hbq)
    replace HI := Lib.hid (row_on HI.out hbq)
    replace HA := Lib.hid (HA.out.below hbq)
    replace HC := Lib.hid (HC.out.below hbq)
    replace HB := Lib.hid (HB.out.trans (hbq.mono HB.out.size))
    clear hbq hq
    generalize wa3.alloc (.cells #[.int .i64 zT.k, .int .i64 zT.n, .string zT.s, .slice az3 zT.args.length cz3] 30 (0, 0)) = wb3 at *
    obtain ⟨z0, z1, z2, z3, z4, z5⟩ := row6 HI.out
    have f3 := frozen_of_row _ gi 3 _ _ HI.out
    have HI2 : Hid ((wb3.setCell ⟨gi, 3, none⟩ (.bool true)).heap[gi]? = some (.cells #[.bool false, .bool true, .bool false, .bool true, .bool false, .bool false] 63 (0, 0))) := Lib.hid (by simpa using heap_setCell_same wb3 gi 3 _ _ (.bool true) HI.out)
    have HB2 : Hid (Below w.heap.size w (wb3.setCell ⟨gi, 3, none⟩ (.bool true))) := Lib.hid (HB.out.setCell (by omega) _)
    have HR1b : Hid ((wb3.setCell ⟨gi, 3, none⟩ (.bool true)).heap[_]? = some _) := Lib.hid ((Below.heap_setCell _ _ _ _ (by show ¬ (_ = gi); omega)).trans HR1.out)
    have HR2b : Hid ((wb3.setCell ⟨gi, 3, none⟩ (.bool true)).heap[_]? = some _) := Lib.hid ((Below.heap_setCell _ _ _ _ (by show ¬ (_ = gi); omega)).trans HR2.out)
    have HAb := Lib.hid (HA.out.imp (w' := (wb3.setCell ⟨gi, 3, none⟩ (.bool true))) (fun _ h => h) fun b hh _ => Below.heap_setCell _ _ _ _ (by show ¬ (b = gi); omega))
    have HCb := Lib.hid (HC.out.imp (w' := (wb3.setCell ⟨gi, 3, none⟩ (.bool true))) (fun _ h => h) fun b hh _ => Below.heap_setCell _ _ _ _ (by show ¬ (b = gi); omega))
    have hsz : (wb3.setCell ⟨gi, 3, none⟩ (.bool true)).heap.size = wb3.heap.size := by simp [World.setCell]
    have HSZ := Lib.hid hsz
    clear hsz
    go_wp2_with fail
    clear z0 z1 z2 z3 z4 z5 f3 HI HB HR1 HR2 HA HC
    generalize wb3.setCell ⟨gi, 3, none⟩ (.bool true) = wc3 at *
    clear HSZ
    have HI := HI2
    have HB := HB2
    have HR1 := HR1b
    have HR2 := HR2b
    have HA := HAb
    have HC := HCb
    clear HI2 HB2 HR1b HR2b HAb HCb
    rw [rounds_succ]
    obtain ⟨x0, x1, x2, x3⟩ := row4 HR1.out
    obtain ⟨y0, y1, y2, y3⟩ := row4 HR2.out
    have ix := ix6_4 (.string (⟨#[60]⟩ : ByteArray)) (.string (⟨#[61, 58, 61]⟩ : ByteArray)) (.string (⟨#[62]⟩ : ByteArray)) (.string (⟨#[61, 60]⟩ : ByteArray)) (.string (⟨#[62, 61]⟩ : ByteArray)) (.string (⟨#[61, 92, 61]⟩ : ByteArray))
    have HR : Hid (holdsT (⟨#[62, 61]⟩ : ByteArray) A B = (true, 0, zT)) := Lib.hid (by rw [holds_good hop_4 HEA.out HEB.out, hd_b4 HT.out])
    go_wp2_with fail
    clear ix
    clear x0 x1 x2 x3 y0 y1 y2 y3
    refine (go_HoldsA (⟨#[62, 61]⟩ : ByteArray) A B _ _ _ (by omega) (by omega) F1.out F2.out HA.out.any HC.out.any).mono ?_
    rintro e4 wa4 ⟨v4, rfl, hiq, hbq⟩
    replace HR1 := Lib.hid (row_on HR1.out hbq)
    replace HR2 := Lib.hid (row_on HR2.out hbq)
    replace HI := Lib.hid (row_on HI.out hbq)
    replace HA := Lib.hid (HA.out.below hbq)
    replace HC := Lib.hid (HC.out.below hbq)
    replace HB := Lib.hid (HB.out.trans (hbq.mono HB.out.size))
    rw [HR.out] at hiq
    obtain ⟨q4, rfl, hiq⟩ := hiq
    simp only at hiq ⊢
    obtain ⟨az4, cz4, rfl⟩ := hiq.form
    clear hiq hbq HR
    go_upto_region 13 with fail
    have hbq := below_new wa4 (.cells #[.int .i64 zT.k, .int .i64 zT.n, .string zT.s, .slice az4 zT.args.length cz4] 30 (0, 0))
    have hq := heap_alloc_new wa4 (.cells #[.int .i64 zT.k, .int .i64 zT.n, .string zT.s, .slice az4 zT.args.length cz4] 30 (0, 0))
    have hzq : wa4.heap.size < (wa4.alloc (.cells #[.int .i64 zT.k, .int .i64 zT.n, .string zT.s, .slice az4 zT.args.length cz4] 30 (0, 0))).heap.size := by simp
    replace HR1 := Lib.hid (row_on HR1.out hbq)
    replace HR2 := Lib.hid (row_on HR2.out hbq)
    replace HI := Lib.hid (row_on HI.out hbq)
    replace HA := Lib.hid (HA.out.below hbq)
    replace HC := Lib.hid (HC.out.below hbq)
    replace HB := Lib.hid (HB.out.trans (hbq.mono HB.out.size))
    clear hbq hq
    generalize wa4.alloc (.cells #[.int .i64 zT.k, .int .i64 zT.n, .string zT.s, .slice az4 zT.args.length cz4] 30 (0, 0)) = wb4 at *
    obtain ⟨z0, z1, z2, z3, z4, z5⟩ := row6 HI.out
    have f4 := frozen_of_row _ gi 4 _ _ HI.out
    have HI2 : Hid ((wb4.setCell ⟨gi, 4, none⟩ (.bool true)).heap[gi]? = some (.cells #[.bool false, .bool true, .bool false, .bool true, .bool true, .bool false] 63 (0, 0))) := Lib.hid (by simpa using heap_setCell_same wb4 gi 4 _ _ (.bool true) HI.out)
    have HB2 : Hid (Below w.heap.size w (wb4.setCell ⟨gi, 4, none⟩ (.bool true))) := Lib.hid (HB.out.setCell (by omega) _)
    have HR1b : Hid ((wb4.setCell ⟨gi, 4, none⟩ (.bool true)).heap[_]? = some _) := Lib.hid ((Below.heap_setCell _ _ _ _ (by show ¬ (_ = gi); omega)).trans HR1.out)
    have HR2b : Hid ((wb4.setCell ⟨gi, 4, none⟩ (.bool true)).heap[_]? = some _) := Lib.hid ((Below.heap_setCell _ _ _ _ (by show ¬ (_ = gi); omega)).trans HR2.out)
    have HAb := Lib.hid (HA.out.imp (w' := (wb4.setCell ⟨gi, 4, none⟩ (.bool true))) (fun _ h => h) fun b hh _ => Below.heap_setCell _ _ _ _ (by show ¬ (b = gi); omega))
    have HCb := Lib.hid (HC.out.imp (w' := (wb4.setCell ⟨gi, 4, none⟩ (.bool true))) (fun _ h => h) fun b hh _ => Below.heap_setCell _ _ _ _ (by show ¬ (b = gi); omega))
    have hsz : (wb4.setCell ⟨gi, 4, none⟩ (.bool true)).heap.size = wb4.heap.size := by simp [World.setCell]
    have HSZ := Lib.hid hsz
    clear hsz
    go_wp2_with fail
    clear z0 z1 z2 z3 z4 z5 f4 HI HB HR1 HR2 HA HC
    generalize wb4.setCell ⟨gi, 4, none⟩ (.bool true) = wc4 at *
    clear HSZ
    have HI := HI2
    have HB := HB2
    have HR1 := HR1b
    have HR2 := HR2b
    have HA := HAb
    have HC := HCb
    clear HI2 HB2 HR1b HR2b HAb HCb
    rw [rounds_succ]
    obtain ⟨x0, x1, x2, x3⟩ := row4 HR1.out
    obtain ⟨y0, y1, y2, y3⟩ := row4 HR2.out
    have ix := ix6_5 (.string (⟨#[60]⟩ : ByteArray)) (.string (⟨#[61, 58, 61]⟩ : ByteArray)) (.string (⟨#[62]⟩ : ByteArray)) (.string (⟨#[61, 60]⟩ : ByteArray)) (.string (⟨#[62, 61]⟩ : ByteArray)) (.string (⟨#[61, 92, 61]⟩ : ByteArray))
    have HR : Hid (holdsT (⟨#[61, 92, 61]⟩ : ByteArray) A B = (false, 0, zT)) := Lib.hid (by rw [holds_good hop_5 HEA.out HEB.out, hd_b5 HT.out])
    go_wp2_with fail
    clear ix
    clear x0 x1 x2 x3 y0 y1 y2 y3
    refine (go_HoldsA (⟨#[61, 92, 61]⟩ : ByteArray) A B _ _ _ (by omega) (by omega) F1.out F2.out HA.out.any HC.out.any).mono ?_
    rintro e5 wa5 ⟨v5, rfl, hiq, hbq⟩
    replace HR1 := Lib.hid (row_on HR1.out hbq)
    replace HR2 := Lib.hid (row_on HR2.out hbq)
    replace HI := Lib.hid (row_on HI.out hbq)
    replace HA := Lib.hid (HA.out.below hbq)
    replace HC := Lib.hid (HC.out.below hbq)
    replace HB := Lib.hid (HB.out.trans (hbq.mono HB.out.size))
    rw [HR.out] at hiq
    obtain ⟨q5, rfl, hiq⟩ := hiq
    simp only at hiq ⊢
    obtain ⟨az5, cz5, rfl⟩ := hiq.form
    clear hiq hbq HR
    go_upto_region 13 with fail
    have hbq := below_new wa5 (.cells #[.int .i64 zT.k, .int .i64 zT.n, .string zT.s, .slice az5 zT.args.length cz5] 30 (0, 0))
    have hq := heap_alloc_new wa5 (.cells #[.int .i64 zT.k, .int .i64 zT.n, .string zT.s, .slice az5 zT.args.length cz5] 30 (0, 0))
    have hzq : wa5.heap.size < (wa5.alloc (.cells #[.int .i64 zT.k, .int .i64 zT.n, .string zT.s, .slice az5 zT.args.length cz5] 30 (0, 0))).heap.size := by simp
    replace HR1 := Lib.hid (row_on HR1.out hbq)
    replace HR2 := Lib.hid (row_on HR2.out hbq)
    replace HI := Lib.hid (row_on HI.out hbq)
    replace HA := Lib.hid (HA.out.below hbq)
    replace HC := Lib.hid (HC.out.below hbq)
    replace HB := Lib.hid (HB.out.trans (hbq.mono HB.out.size))
    clear hbq hq
    generalize wa5.alloc (.cells #[.int .i64 zT.k, .int .i64 zT.n, .string zT.s, .slice az5 zT.args.length cz5] 30 (0, 0)) = wb5 at *
    obtain ⟨z0, z1, z2, z3, z4, z5⟩ := row6 HI.out
    have f5 := frozen_of_row _ gi 5 _ _ HI.out
    have HI2 : Hid ((wb5.setCell ⟨gi, 5, none⟩ (.bool false)).heap[gi]? = some (.cells #[.bool false, .bool true, .bool false, .bool true, .bool true, .bool false] 63 (0, 0))) := Lib.hid (by simpa using heap_setCell_same wb5 gi 5 _ _ (.bool false) HI.out)
    have HB2 : Hid (Below w.heap.size w (wb5.setCell ⟨gi, 5, none⟩ (.bool false))) := Lib.hid (HB.out.setCell (by omega) _)
    have HR1b : Hid ((wb5.setCell ⟨gi, 5, none⟩ (.bool false)).heap[_]? = some _) := Lib.hid ((Below.heap_setCell _ _ _ _ (by show ¬ (_ = gi); omega)).trans HR1.out)
    have HR2b : Hid ((wb5.setCell ⟨gi, 5, none⟩ (.bool false)).heap[_]? = some _) := Lib.hid ((Below.heap_setCell _ _ _ _ (by show ¬ (_ = gi); omega)).trans HR2.out)
    have HAb := Lib.hid (HA.out.imp (w' := (wb5.setCell ⟨gi, 5, none⟩ (.bool false))) (fun _ h => h) fun b hh _ => Below.heap_setCell _ _ _ _ (by show ¬ (b = gi); omega))
    have HCb := Lib.hid (HC.out.imp (w' := (wb5.setCell ⟨gi, 5, none⟩ (.bool false))) (fun _ h => h) fun b hh _ => Below.heap_setCell _ _ _ _ (by show ¬ (b = gi); omega))
    have hsz : (wb5.setCell ⟨gi, 5, none⟩ (.bool false)).heap.size = wb5.heap.size := by simp [World.setCell]
    have HSZ := Lib.hid hsz
    clear hsz
    go_wp2_with fail
    clear z0 z1 z2 z3 z4 z5 f5 HI HB HR1 HR2 HA HC
    generalize wb5.setCell ⟨gi, 5, none⟩ (.bool false) = wc5 at *
    clear HSZ
    have HI := HI2
    have HB := HB2
    have HR1 := HR1b
    have HR2 := HR2b
    have HA := HAb
    have HC := HCb
    clear HI2 HB2 HR1b HR2b HAb HCb
    rw [rounds_succ]
    obtain ⟨z0, z1, z2, z3, z4, z5⟩ := row6 HI.out
    go_wp2_with fail
    refine wp_loop_rounds 4 ?_
    rw [rounds_succ]
    go_wp2_with fail
    rw [rounds_succ]
    go_wp2_with fail
    rw [rounds_succ]
    go_wp2_with fail
    rw [rounds_succ]
    go_wp2_with fail
    go_ret
    exact ⟨rfl, HB.out⟩
  ·
    have HT := Lib.hid hlt
    clear hlt
    rw [rounds_succ]
    obtain ⟨x0, x1, x2, x3⟩ := row4 HR1.out
    obtain ⟨y0, y1, y2, y3⟩ := row4 HR2.out
    have ix := ix6_0 (.string (⟨#[60]⟩ : ByteArray)) (.string (⟨#[61, 58, 61]⟩ : ByteArray)) (.string (⟨#[62]⟩ : ByteArray)) (.string (⟨#[61, 60]⟩ : ByteArray)) (.string (⟨#[62, 61]⟩ : ByteArray)) (.string (⟨#[61, 92, 61]⟩ : ByteArray))
    have HR : Hid (holdsT (⟨#[60]⟩ : ByteArray) A B = (false, 0, zT)) := Lib.hid (by rw [holds_good hop_0 HEA.out HEB.out, hd_c0 HT.out])
    go_wp2_with fail
    clear ix
    clear x0 x1 x2 x3 y0 y1 y2 y3
    refine (go_HoldsA (⟨#[60]⟩ : ByteArray) A B _ _ _ (by omega) (by omega) F1.out F2.out HA.out.any HC.out.any).mono ?_
    rintro e0 wa0 ⟨v0, rfl, hiq, hbq⟩
    replace HR1 := Lib.hid (row_on HR1.out hbq)
    replace HR2 := Lib.hid (row_on HR2.out hbq)
    replace HI := Lib.hid (row_on HI.out hbq)
    replace HA := Lib.hid (HA.out.below hbq)
    replace HC := Lib.hid (HC.out.below hbq)
    replace HB := Lib.hid (HB.out.trans (hbq.mono HB.out.size))
    rw [HR.out] at hiq
    obtain ⟨q0, rfl, hiq⟩ := hiq
    simp only at hiq ⊢
    obtain ⟨az0, cz0, rfl⟩ := hiq.form
    clear hiq hbq HR
    go_upto_region 13 with fail
    have hbq := below_new wa0 (.cells #[.int .i64 zT.k, .int .i64 zT.n, .string zT.s, .slice az0 zT.args.length cz0] 30 (0, 0))
    have hq := heap_alloc_new wa0 (.cells #[.int .i64 zT.k, .int .i64 zT.n, .string zT.s, .slice az0 zT.args.length cz0] 30 (0, 0))
    have hzq : wa0.heap.size < (wa0.alloc (.cells #[.int .i64 zT.k, .int .i64 zT.n, .string zT.s, .slice az0 zT.args.length cz0] 30 (0, 0))).heap.size := by simp
    replace HR1 := Lib.hid (row_on HR1.out hbq)
    replace HR2 := Lib.hid (row_on HR2.out hbq)
    replace HI := Lib.hid (row_on HI.out hbq)
    replace HA := Lib.hid (HA.out.below hbq)
    replace HC := Lib.hid (HC.out.below hbq)
    replace HB := Lib.hid (HB.out.trans (hbq.mono HB.out.size))
    clear hbq hq
    generalize wa0.alloc (.cells #[.int .i64 zT.k, .int .i64 zT.n, .string zT.s, .slice az0 zT.args.length cz0] 30 (0, 0)) = wb0 at *
    obtain ⟨z0, z1, z2, z3, z4, z5⟩ := row6 HI.out
    have f0 := frozen_of_row _ gi 0 _ _ HI.out
    have HI2 : Hid ((wb0.setCell ⟨gi, 0, none⟩ (.bool false)).heap[gi]? = some (.cells #[.bool false, .bool false, .bool false, .bool false, .bool false, .bool false] 63 (0, 0))) := Lib.hid (by simpa using heap_setCell_same wb0 gi 0 _ _ (.bool false) HI.out)
    have HB2 : Hid (Below w.heap.size w (wb0.setCell ⟨gi, 0, none⟩ (.bool false))) := Lib.hid (HB.out.setCell (by omega) _)
    have HR1b : Hid ((wb0.setCell ⟨gi, 0, none⟩ (.bool false)).heap[_]? = some _) := Lib.hid ((Below.heap_setCell _ _ _ _ (by show ¬ (_ = gi); omega)).trans HR1.out)
    have HR2b : Hid ((wb0.setCell ⟨gi, 0, none⟩ (.bool false)).heap[_]? = some _) := Lib.hid ((Below.heap_setCell _ _ _ _ (by show ¬ (_ = gi); omega)).trans HR2.out)
    have HAb := Lib.hid (HA.out.imp (w' := (wb0.setCell ⟨gi, 0, none⟩ (.bool false))) (fun _ h => h) fun b hh _ => Below.heap_setCell _ _ _ _ (by show ¬ (b = gi); omega))
    have HCb := Lib.hid (HC.out.imp (w' := (wb0.setCell ⟨gi, 0, none⟩ (.bool false))) (fun _ h => h) fun b hh _ => Below.heap_setCell _ _ _ _ (by show ¬ (b = gi); omega))
    have hsz : (wb0.setCell ⟨gi, 0, none⟩ (.bool false)).heap.size = wb0.heap.size := by simp [World.setCell]
    have HSZ := Lib.hid hsz
    clear hsz
    go_wp2_with fail
    clear z0 z1 z2 z3 z4 z5 f0 HI HB HR1 HR2 HA HC
    generalize wb0.setCell ⟨gi, 0, none⟩ (.bool false) = wc0 at *
    clear HSZ
    have HI := HI2
    have HB := HB2
    have HR1 := HR1b
    have HR2 := HR2b
    have HA := HAb
    have HC := HCb
    clear HI2 HB2 HR1b HR2b HAb HCb
    rw [rounds_succ]
    obtain ⟨x0, x1, x2, x3⟩ := row4 HR1.out
    obtain ⟨y0, y1, y2, y3⟩ := row4 HR2.out
    have ix := ix6_1 (.string (⟨#[60]⟩ : ByteArray)) (.string (⟨#[61, 58, 61]⟩ : ByteArray)) (.string (⟨#[62]⟩ : ByteArray)) (.string (⟨#[61, 60]⟩ : ByteArray)) (.string (⟨#[62, 61]⟩ : ByteArray)) (.string (⟨#[61, 92, 61]⟩ : ByteArray))
    have HR : Hid (holdsT (⟨#[61, 58, 61]⟩ : ByteArray) A B = (false, 0, zT)) := Lib.hid (by rw [holds_good hop_1 HEA.out HEB.out, hd_c1 HT.out])
    go_wp2_with fail
    clear ix
    clear x0 x1 x2 x3 y0 y1 y2 y3
    refine (go_HoldsA (⟨#[61, 58, 61]⟩ : ByteArray) A B _ _ _ (by omega) (by omega) F1.out F2.out HA.out.any HC.out.any).mono ?_
    rintro e1 wa1 ⟨v1, rfl, hiq, hbq⟩
    replace HR1 := Lib.hid (row_on HR1.out hbq)
    replace HR2 := Lib.hid (row_on HR2.out hbq)
    replace HI := Lib.hid (row_on HI.out hbq)
    replace HA := Lib.hid (HA.out.below hbq)
    replace HC := Lib.hid (HC.out.below hbq)
    replace HB := Lib.hid (HB.out.trans (hbq.mono HB.out.size))
    rw [HR.out] at hiq
    obtain ⟨q1, rfl, hiq⟩ := hiq
    simp only at hiq ⊢
    obtain ⟨az1, cz1, rfl⟩ := hiq.form
    clear hiq hbq HR
    go_upto_region 13 with fail
    have hbq := below_new wa1 (.cells #[.int .i64 zT.k, .int .i64 zT.n, .string zT.s, .slice az1 zT.args.length cz1] 30 (0, 0))
    have hq := heap_alloc_new wa1 (.cells #[.int .i64 zT.k, .int .i64 zT.n, .string zT.s, .slice az1 zT.args.length cz1] 30 (0, 0))
    have hzq : wa1.heap.size < (wa1.alloc (.cells #[.int .i64 zT.k, .int .i64 zT.n, .string zT.s, .slice az1 zT.args.length cz1] 30 (0, 0))).heap.size := by simp
    replace HR1 := Lib.hid (row_on HR1.out hbq)
    replace HR2 := Lib.hid (row_on HR2.out hbq)
    replace HI := Lib.hid (row_on HI.out hbq)
    replace HA := Lib.hid (HA.out.below hbq)
    replace HC := Lib.hid (HC.out.below hbq)
    replace HB := Lib.hid (HB.out.trans (hbq.mono HB.out.size))
    clear hbq hq
    generalize wa1.alloc (.cells #[.int .i64 zT.k, .int .i64 zT.n, .string zT.s, .slice az1 zT.args.length cz1] 30 (0, 0)) = wb1 at *
    obtain ⟨z0, z1, z2, z3, z4, z5⟩ := row6 HI.out
    have f1 := frozen_of_row _ gi 1 _ _ HI.out
    have HI2 : Hid ((wb1.setCell ⟨gi, 1, none⟩ (.bool false)).heap[gi]? = some (.cells #[.bool false, .bool false, .bool false, .bool false, .bool false, .bool false] 63 (0, 0))) := Lib.hid (by simpa using heap_setCell_same wb1 gi 1 _ _ (.bool false) HI.out)
    have HB2 : Hid (Below w.heap.size w (wb1.setCell ⟨gi, 1, none⟩ (.bool false))) := Lib.hid (HB.out.setCell (by omega) _)
    have HR1b : Hid ((wb1.setCell ⟨gi, 1, none⟩ (.bool false)).heap[_]? = some _) := Lib.hid ((Below.heap_setCell _ _ _ _ (by show ¬ (_ = gi); omega)).trans HR1.out)
    have HR2b : Hid ((wb1.setCell ⟨gi, 1, none⟩ (.bool false)).heap[_]? = some _) := Lib.hid ((Below.heap_setCell _ _ _ _ (by show ¬ (_ = gi); omega)).trans HR2.out)
    have HAb := Lib.hid (HA.out.imp (w' := (wb1.setCell ⟨gi, 1, none⟩ (.bool false))) (fun _ h => h) fun b hh _ => Below.heap_setCell _ _ _ _ (by show ¬ (b = gi); omega))
    have HCb := Lib.hid (HC.out.imp (w' := (wb1.setCell ⟨gi, 1, none⟩ (.bool false))) (fun _ h => h) fun b hh _ => Below.heap_setCell _ _ _ _ (by show ¬ (b = gi); omega))
    have hsz : (wb1.setCell ⟨gi, 1, none⟩ (.bool false)).heap.size = wb1.heap.size := by simp [World.setCell]
    have HSZ := Lib.hid hsz
    clear hsz
    go_wp2_with fail
    clear z0 z1 z2 z3 z4 z5 f1 HI HB HR1 HR2 HA HC
    generalize wb1.setCell ⟨gi, 1, none⟩ (.bool false) = wc1 at *
    clear HSZ
    have HI := HI2
    have HB := HB2
    have HR1 := HR1b
    have HR2 := HR2b
    have HA := HAb
    have HC := HCb
    clear HI2 HB2 HR1b HR2b HAb HCb
    rw [rounds_succ]
    obtain ⟨x0, x1, x2, x3⟩ := row4 HR1.out
    obtain ⟨y0, y1, y2, y3⟩ := row4 HR2.out
    have ix := ix6_2 (.string (⟨#[60]⟩ : ByteArray)) (.string (⟨#[61, 58, 61]⟩ : ByteArray)) (.string (⟨#[62]⟩ : ByteArray)) (.string (⟨#[61, 60]⟩ : ByteArray)) (.string (⟨#[62, 61]⟩ : ByteArray)) (.string (⟨#[61, 92, 61]⟩ : ByteArray))
    have HR : Hid (holdsT (⟨#[62]⟩ : ByteArray) A B = (true, 0, zT)) := Lib.hid (by rw [holds_good hop_2 HEA.out HEB.out, hd_c2 HT.out])
    go_wp2_with fail
    clear ix
    clear x0 x1 x2 x3 y0 y1 y2 y3
    refine (go_HoldsA (⟨#[62]⟩ : ByteArray) A B _ _ _ (by omega) (by omega) F1.out F2.out HA.out.any HC.out.any).mono ?_
    rintro e2 wa2 ⟨v2, rfl, hiq, hbq⟩
    replace HR1 := Lib.hid (row_on HR1.out hbq)
    replace HR2 := Lib.hid (row_on HR2.out hbq)
    replace HI := Lib.hid (row_on HI.out hbq)
    replace HA := Lib.hid (HA.out.below hbq)
    replace HC := Lib.hid (HC.out.below hbq)
    replace HB := Lib.hid (HB.out.trans (hbq.mono HB.out.size))
    rw [HR.out] at hiq
    obtain ⟨q2, rfl, hiq⟩ := hiq
    simp only at hiq ⊢
    obtain ⟨az2, cz2, rfl⟩ := hiq.form
    clear hiq hbq HR
    go_upto_region 13 with fail
    have hbq := below_new wa2 (.cells #[.int .i64 zT.k, .int .i64 zT.n, .string zT.s, .slice az2 zT.args.length cz2] 30 (0, 0))
    have hq := heap_alloc_new wa2 (.cells #[.int .i64 zT.k, .int .i64 zT.n, .string zT.s, .slice az2 zT.args.length cz2] 30 (0, 0))
    have hzq : wa2.heap.size < (wa2.alloc (.cells #[.int .i64 zT.k, .int .i64 zT.n, .string zT.s, .slice az2 zT.args.length cz2] 30 (0, 0))).heap.size := by simp
    replace HR1 := Lib.hid (row_on HR1.out hbq)
    replace HR2 := Lib.hid (row_on HR2.out hbq)
    replace HI := Lib.hid (row_on HI.out hbq)
    replace HA := Lib.hid (HA.out.below hbq)
    replace HC := Lib.hid (HC.out.below hbq)
    replace HB := Lib.hid (HB.out.trans (hbq.mono HB.out.size))
    clear hbq hq
    generalize wa2.alloc (.cells #[.int .i64 zT.k, .int .i64 zT.n, .string zT.s, .slice az2 zT.args.length cz2] 30 (0, 0)) = wb2 at *
    obtain ⟨z0, z1, z2, z3, z4, z5⟩ := row6 HI.out
    have f2 := frozen_of_row _ gi 2 _ _ HI.out
    have HI2 : Hid ((wb2.setCell ⟨gi, 2, none⟩ (.bool true)).heap[gi]? = some (.cells #[.bool false, .bool false, .bool true, .bool false, .bool false, .bool false] 63 (0, 0))) := Lib.hid (by simpa using heap_setCell_same wb2 gi 2 _ _ (.bool true) HI.out)
    have HB2 : Hid (Below w.heap.size w (wb2.setCell ⟨gi, 2, none⟩ (.bool true))) := Lib.hid (HB.out.setCell (by omega) _)
    have HR1b : Hid ((wb2.setCell ⟨gi, 2, none⟩ (.bool true)).heap[_]? = some _) := Lib.hid ((Below.heap_setCell _ _ _ _ (by show ¬ (_ = gi); omega)).trans HR1.out)
    have HR2b : Hid ((wb2.setCell ⟨gi, 2, none⟩ (.bool true)).heap[_]? = some _) := Lib.hid ((Below.heap_setCell _ _ _ _ (by show ¬ (_ = gi); omega)).trans HR2.out)
    have HAb := Lib.hid (HA.out.imp (w' := (wb2.setCell ⟨gi, 2, none⟩ (.bool true))) (fun _ h => h) fun b hh _ => Below.heap_setCell _ _ _ _ (by show ¬ (b = gi); omega))
    have HCb := Lib.hid (HC.out.imp (w' := (wb2.setCell ⟨gi, 2, none⟩ (.bool true))) (fun _ h => h) fun b hh _ => Below.heap_setCell _ _ _ _ (by show ¬ (b = gi); omega))
    have hsz : (wb2.setCell ⟨gi, 2, none⟩ (.bool true)).heap.size = wb2.heap.size := by simp [World.setCell]
    have HSZ := Lib.hid hsz
    clear hsz
    go_wp2_with fail
    clear z0 z1 z2 z3 z4 z5 f2 HI HB HR1 HR2 HA HC
    generalize wb2.setCell ⟨gi, 2, none⟩ (.bool true) = wc2 at *
    clear HSZ
    have HI := HI2
    have HB := HB2
    have HR1 := HR1b
    have HR2 := HR2b
    have HA := HAb
    have HC := HCb
    clear HI2 HB2 HR1b HR2b HAb HCb
    rw [rounds_succ]
    obtain ⟨x0, x1, x2, x3⟩ := row4 HR1.out
    obtain ⟨y0, y1, y2, y3⟩ := row4 HR2.out
    have ix := ix6_3 (.string (⟨#[60]⟩ : ByteArray)) (.string (⟨#[61, 58, 61]⟩ : ByteArray)) (.string (⟨#[62]⟩ : ByteArray)) (.string (⟨#[61, 60]⟩ : ByteArray)) (.string (⟨#[62, 61]⟩ : ByteArray)) (.string (⟨#[61, 92, 61]⟩ : ByteArray))
    have HR : Hid (holdsT (⟨#[61, 60]⟩ : ByteArray) A B = (false, 0, zT)) := Lib.hid (by rw [holds_good hop_3 HEA.out HEB.out, hd_c3 HT.out])
    go_wp2_with fail
    clear ix
    clear x0 x1 x2 x3 y0 y1 y2 y3
    refine (go_HoldsA (⟨#[61, 60]⟩ : ByteArray) A B _ _ _ (by omega) (by omega) F1.out F2.out HA.out.any HC.out.any).mono ?_
    rintro e3 wa3 ⟨v3, rfl, hiq, hbq⟩
    replace HR1 := Lib.hid (row_on HR1.out hbq)
    replace HR2 := Lib.hid (row_on HR2.out hbq)
    replace HI := Lib.hid (row_on HI.out hbq)
    replace HA := Lib.hid (HA.out.below hbq)
    replace HC := Lib.hid (HC.out.below hbq)
    replace HB := Lib.hid (HB.out.trans (hbq.mono HB.out.size))
    rw [HR.out] at hiq
    obtain ⟨q3, rfl, hiq⟩ := hiq
    simp only at hiq ⊢
    obtain ⟨az3, cz3, rfl⟩ := hiq.form
    clear hiq hbq HR
    go_upto_region 13 with fail
    have hbq := below_new wa3 (.cells #[.int .i64 zT.k, .int .i64 zT.n, .string zT.s, .slice az3 zT.args.length cz3] 30 (0, 0))
    have hq := heap_alloc_new wa3 (.cells #[.int .i64 zT.k, .int .i64 zT.n, .string zT.s, .slice az3 zT.args.length cz3] 30 (0, 0))
    have hzq : wa3.heap.size < (wa3.alloc (.cells #[.int .i64 zT.k, .int .i64 zT.n, .string zT.s, .slice az3 zT.args.length cz3] 30 (0, 0))).heap.size := by simp
    replace HR1 := Lib.hid (row_on HR1.out hbq)
    replace HR2 := Lib.hid (row_on HR2.out hbq)
    replace HI := Lib.hid (row_on HI.out hbq)
    replace HA := Lib.hid (HA.out.below hbq)
    replace HC := Lib.hid (HC.out.below hbq)
    replace HB := Lib.hid (HB.out.trans (hbq.mono HB.out.size))
    clear hbq hq
    generalize wa3.alloc (.cells #[.int .i64 zT.k, .int .i64 zT.n, .string zT.s, .slice az3 zT.args.length cz3] 30 (0, 0)) = wb3 at *
    obtain ⟨z0, z1, z2, z3, z4, z5⟩ := row6 HI.out
    have f3 := frozen_of_row _ gi 3 _ _ HI.out
    have HI2 : Hid ((wb3.setCell ⟨gi, 3, none⟩ (.bool false)).heap[gi]? = some (.cells #[.bool false, .bool false, .bool true, .bool false, .bool false, .bool false] 63 (0, 0))) := Lib.hid (by simpa using heap_setCell_same wb3 gi 3 _ _ (.bool false) HI.out)
    have HB2 : Hid (Below w.heap.size w (wb3.setCell ⟨gi, 3, none⟩ (.bool false))) := Lib.hid (HB.out.setCell (by omega) _)
    have HR1b : Hid ((wb3.setCell ⟨gi, 3, none⟩ (.bool false)).heap[_]? = some _) := Lib.hid ((Below.heap_setCell _ _ _ _ (by show ¬ (_ = gi); omega)).trans HR1.out)
    have HR2b : Hid ((wb3.setCell ⟨gi, 3, none⟩ (.bool false)).heap[_]? = some _) := Lib.hid ((Below.heap_setCell _ _ _ _ (by show ¬ (_ = gi); omega)).trans HR2.out)
    have HAb := Lib.hid (HA.out.imp (w' := (wb3.setCell ⟨gi, 3, none⟩ (.bool false))) (fun _ h => h) fun b hh _ => Below.heap_setCell _ _ _ _ (by show ¬ (b = gi); omega))
    have HCb := Lib.hid (HC.out.imp (w' := (wb3.setCell ⟨gi, 3, none⟩ (.bool false))) (fun _ h => h) fun b hh _ => Below.heap_setCell _ _ _ _ (by show ¬ (b = gi); omega))
    have hsz : (wb3.setCell ⟨gi, 3, none⟩ (.bool false)).heap.size = wb3.heap.size := by simp [World.setCell]
    have HSZ := Lib.hid hsz
    clear hsz
    go_wp2_with fail
    clear z0 z1 z2 z3 z4 z5 f3 HI HB HR1 HR2 HA HC
    generalize wb3.setCell ⟨gi, 3, none⟩ (.bool false) = wc3 at *
    clear HSZ
    have HI := HI2
    have HB := HB2
    have HR1 := HR1b
    have HR2 := HR2b
    have HA := HAb
    have HC := HCb
    clear HI2 HB2 HR1b HR2b HAb HCb
    rw [rounds_succ]
    obtain ⟨x0, x1, x2, x3⟩ := row4 HR1.out
    obtain ⟨y0, y1, y2, y3⟩ := row4 HR2.out
    have ix := ix6_4 (.string (⟨#[60]⟩ : ByteArray)) (.string (⟨#[61, 58, 61]⟩ : ByteArray)) (.string (⟨#[62]⟩ : ByteArray)) (.string (⟨#[61, 60]⟩ : ByteArray)) (.string (⟨#[62, 61]⟩ : ByteArray)) (.string (⟨#[61, 92, 61]⟩ : ByteArray))
    have HR : Hid (holdsT (⟨#[62, 61]⟩ : ByteArray) A B = (true, 0, zT)) := Lib.hid (by rw [holds_good hop_4 HEA.out HEB.out, hd_c4 HT.out])
    go_wp2_with fail
    clear ix
    clear x0 x1 x2 x3 y0 y1 y2 y3
    refine (go_HoldsA (⟨#[62, 61]⟩ : ByteArray) A B _ _ _ (by omega) (by omega) F1.out F2.out HA.out.any HC.out.any).mono ?_
    rintro e4 wa4 ⟨v4, rfl, hiq, hbq⟩
    replace HR1 := Lib.hid (row_on HR1.out hbq)
    replace HR2 := Lib.hid (row_on HR2.out hbq)
    replace HI := Lib.hid (row_on HI.out hbq)
    replace HA := Lib.hid (HA.out.below hbq)
    replace HC := Lib.hid (HC.out.below hbq)
    replace HB := Lib.hid (HB.out.trans (hbq.mono HB.out.size))
    rw [HR.out] at hiq
    obtain ⟨q4, rfl, hiq⟩ := hiq
    simp only at hiq ⊢
    obtain ⟨az4, cz4, rfl⟩ := hiq.form
    clear hiq hbq HR
    go_upto_region 13 with fail
    have hbq := below_new wa4 (.cells #[.int .i64 zT.k, .int .i64 zT.n, .string zT.s, .slice az4 zT.args.length cz4] 30 (0, 0))
    have hq := heap_alloc_new wa4 (.cells #[.int .i64 zT.k, .int .i64 zT.n, .string zT.s, .slice az4 zT.args.length cz4] 30 (0, 0))
    have hzq : wa4.heap.size < (wa4.alloc (.cells #[.int .i64 zT.k, .int .i64 zT.n, .string zT.s, .slice az4 zT.args.length cz4] 30 (0, 0))).heap.size := by simp
    replace HR1 := Lib.hid (row_on HR1.out hbq)
    replace HR2 := Lib.hid (row_on HR2.out hbq)
    replace HI := Lib.hid (row_on HI.out hbq)
    replace HA := Lib.hid (HA.out.below hbq)
    replace HC := Lib.hid (HC.out.below hbq)
    replace HB := Lib.hid (HB.out.trans (hbq.mono HB.out.size))
    clear hbq hq
    generalize wa4.alloc (.cells #[.int .i64 zT.k, .int .i64 zT.n, .string zT.s, .slice az4 zT.args.length cz4] 30 (0, 0)) = wb4 at *
    obtain ⟨z0, z1, z2, z3, z4, z5⟩ := row6 HI.out
    have f4 := frozen_of_row _ gi 4 _ _ HI.out
    have HI2 : Hid ((wb4.setCell ⟨gi, 4, none⟩ (.bool true)).heap[gi]? = some (.cells #[.bool false, .bool false, .bool true, .bool false, .bool true, .bool false] 63 (0, 0))) := Lib.hid (by simpa using heap_setCell_same wb4 gi 4 _ _ (.bool true) HI.out)
    have HB2 : Hid (Below w.heap.size w (wb4.setCell ⟨gi, 4, none⟩ (.bool true))) := Lib.hid (HB.out.setCell (by omega) _)
    have HR1b : Hid ((wb4.setCell ⟨gi, 4, none⟩ (.bool true)).heap[_]? = some _) := Lib.hid ((Below.heap_setCell _ _ _ _ (by show ¬ (_ = gi); omega)).trans HR1.out)
    have HR2b : Hid ((wb4.setCell ⟨gi, 4, none⟩ (.bool true)).heap[_]? = some _) := Lib.hid ((Below.heap_setCell _ _ _ _ (by show ¬ (_ = gi); omega)).trans HR2.out)
    have HAb := Lib.hid (HA.out.imp (w' := (wb4.setCell ⟨gi, 4, none⟩ (.bool true))) (fun _ h => h) fun b hh _ => Below.heap_setCell _ _ _ _ (by show ¬ (b = gi); omega))
    have HCb := Lib.hid (HC.out.imp (w' := (wb4.setCell ⟨gi, 4, none⟩ (.bool true))) (fun _ h => h) fun b hh _ => Below.heap_setCell _ _ _ _ (by show ¬ (b = gi); omega))
    have hsz : (wb4.setCell ⟨gi, 4, none⟩ (.bool true)).heap.size = wb4.heap.size := by simp [World.setCell]
    have HSZ := Lib.hid hsz
    clear hsz
    go_wp2_with fail
    clear z0 z1 z2 z3 z4 z5 f4 HI HB HR1 HR2 HA HC
    generalize wb4.setCell ⟨gi, 4, none⟩ (.bool true) = wc4 at *
    clear HSZ
    have HI := HI2
    have HB := HB2
    have HR1 := HR1b
    have HR2 := HR2b
    have HA := HAb
    have HC := HCb
    clear HI2 HB2 HR1b HR2b HAb HCb
    rw [rounds_succ]
    obtain ⟨x0, x1, x2, x3⟩ := row4 HR1.out
    obtain ⟨y0, y1, y2, y3⟩ := row4 HR2.out
    have ix := ix6_5 (.string (⟨#[60]⟩ : ByteArray)) (.string (⟨#[61, 58, 61]⟩ : ByteArray)) (.string (⟨#[62]⟩ : ByteArray)) (.string (⟨#[61, 60]⟩ : ByteArray)) (.string (⟨#[62, 61]⟩ : ByteArray)) (.string (⟨#[61, 92, 61]⟩ : ByteArray))
    have HR : Hid (holdsT (⟨#[61, 92, 61]⟩ : ByteArray) A B = (true, 0, zT)) := Lib.hid (by rw [holds_good hop_5 HEA.out HEB.out, hd_c5 HT.out])
    go_wp2_with fail
    clear ix
    clear x0 x1 x2 x3 y0 y1 y2 y3
    refine (go_HoldsA (⟨#[61, 92, 61]⟩ : ByteArray) A B _ _ _ (by omega) (by omega) F1.out F2.out HA.out.any HC.out.any).mono ?_
    rintro e5 wa5 ⟨v5, rfl, hiq, hbq⟩
    replace HR1 := Lib.hid (row_on HR1.out hbq)
    replace HR2 := Lib.hid (row_on HR2.out hbq)
    replace HI := Lib.hid (row_on HI.out hbq)
    replace HA := Lib.hid (HA.out.below hbq)
    replace HC := Lib.hid (HC.out.below hbq)
    replace HB := Lib.hid (HB.out.trans (hbq.mono HB.out.size))
    rw [HR.out] at hiq
    obtain ⟨q5, rfl, hiq⟩ := hiq
    simp only at hiq ⊢
    obtain ⟨az5, cz5, rfl⟩ := hiq.form
    clear hiq hbq HR
    go_upto_region 13 with fail
    have hbq := below_new wa5 (.cells #[.int .i64 zT.k, .int .i64 zT.n, .string zT.s, .slice az5 zT.args.length cz5] 30 (0, 0))
    have hq := heap_alloc_new wa5 (.cells #[.int .i64 zT.k, .int .i64 zT.n, .string zT.s, .slice az5 zT.args.length cz5] 30 (0, 0))
    have hzq : wa5.heap.size < (wa5.alloc (.cells #[.int .i64 zT.k, .int .i64 zT.n, .string zT.s, .slice az5 zT.args.length cz5] 30 (0, 0))).heap.size := by simp
    replace HR1 := Lib.hid (row_on HR1.out hbq)
    replace HR2 := Lib.hid (row_on HR2.out hbq)
    replace HI := Lib.hid (row_on HI.out hbq)
    replace HA := Lib.hid (HA.out.below hbq)
    replace HC := Lib.hid (HC.out.below hbq)
    replace HB := Lib.hid (HB.out.trans (hbq.mono HB.out.size))
    clear hbq hq
    generalize wa5.alloc (.cells #[.int .i64 zT.k, .int .i64 zT.n, .string zT.s, .slice az5 zT.args.length cz5] 30 (0, 0)) = wb5 at *
    obtain ⟨z0, z1, z2, z3, z4, z5⟩ := row6 HI.out
    have f5 := frozen_of_row _ gi 5 _ _ HI.out
    have HI2 : Hid ((wb5.setCell ⟨gi, 5, none⟩ (.bool true)).heap[gi]? = some (.cells #[.bool false, .bool false, .bool true, .bool false, .bool true, .bool true] 63 (0, 0))) := Lib.hid (by simpa using heap_setCell_same wb5 gi 5 _ _ (.bool true) HI.out)
    have HB2 : Hid (Below w.heap.size w (wb5.setCell ⟨gi, 5, none⟩ (.bool true))) := Lib.hid (HB.out.setCell (by omega) _)
    have HR1b : Hid ((wb5.setCell ⟨gi, 5, none⟩ (.bool true)).heap[_]? = some _) := Lib.hid ((Below.heap_setCell _ _ _ _ (by show ¬ (_ = gi); omega)).trans HR1.out)
    have HR2b : Hid ((wb5.setCell ⟨gi, 5, none⟩ (.bool true)).heap[_]? = some _) := Lib.hid ((Below.heap_setCell _ _ _ _ (by show ¬ (_ = gi); omega)).trans HR2.out)
    have HAb := Lib.hid (HA.out.imp (w' := (wb5.setCell ⟨gi, 5, none⟩ (.bool true))) (fun _ h => h) fun b hh _ => Below.heap_setCell _ _ _ _ (by show ¬ (b = gi); omega))
    have HCb := Lib.hid (HC.out.imp (w' := (wb5.setCell ⟨gi, 5, none⟩ (.bool true))) (fun _ h => h) fun b hh _ => Below.heap_setCell _ _ _ _ (by show ¬ (b = gi); omega))
    have hsz : (wb5.setCell ⟨gi, 5, none⟩ (.bool true)).heap.size = wb5.heap.size := by simp [World.setCell]
    have HSZ := Lib.hid hsz
    clear hsz
    go_wp2_with fail
    clear z0 z1 z2 z3 z4 z5 f5 HI HB HR1 HR2 HA HC
    generalize wb5.setCell ⟨gi, 5, none⟩ (.bool true) = wc5 at *
    clear HSZ
    have HI := HI2
    have HB := HB2
    have HR1 := HR1b
    have HR2 := HR2b
    have HA := HAb
    have HC := HCb
    clear HI2 HB2 HR1b HR2b HAb HCb
    rw [rounds_succ]
    obtain ⟨z0, z1, z2, z3, z4, z5⟩ := row6 HI.out
    go_wp2_with fail
    refine wp_loop_rounds 4 ?_
    rw [rounds_succ]
    go_wp2_with fail
    rw [rounds_succ]
    go_wp2_with fail
    rw [rounds_succ]
    go_wp2_with fail
    rw [rounds_succ]
    go_wp2_with fail
    go_ret
    exact ⟨rfl, HB.out⟩
end Go.Proofs.Ytibjcfbilkkmkaa.Tms
