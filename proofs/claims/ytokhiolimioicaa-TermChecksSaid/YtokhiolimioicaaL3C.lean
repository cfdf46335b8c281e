
/-
  TermChecks, walked over the program.
-/
import Derived.Test.YtokhiolimioicaaAl3
import Derived.Test.YtokhiolimioicaaRmay
import Derived.Test.YtokhiolimioicaaChn
namespace Go.Proofs.Ytokhiolimioicaa.Tms
open Go Go.RowKit Go.Proofs.Ytokhiolimioicaa.Reg Go.Proofs.Ytokhiolimioicaa.Rws
set_option linter.unusedVariables false

set_option maxRecDepth 100000 in
set_option maxHeartbeats 4000000 in
theorem law_checks (L : List Pt) (v1 : Value) (w : World) (h1 : PtSl w v1 L) : Calls Try.prog 3 #[v1] w (Says true w) := by
  obtain ⟨a1, c1, rfl, hc1, hm1⟩ := h1.form
  have H1 := Lib.hid h1
  clear h1
  by_cases g1 : 60 < L.length
  · have d1 : decide (60 < (L.length : Int)) = true := by simp; omega
    go_enter Try.func3, Try.ntmps3
    go_wp2_with (first
      | (go_at_call 14; refine (l3_alive _).mono ?_; rintro e1 w1 ⟨rfl, hb1⟩; have HB := Lib.hid hb1; clear hb1)
      | (refine (ref_great L _ _ (H1.out.below HB.out)).mono ?_; rintro e2 w2 ⟨rfl, rfl⟩))
    go_ret
    exact ⟨rfl, HB.out⟩
  have d1 : decide (60 < (L.length : Int)) = false := by simp; omega
  have z1 := ofN_small L.length L
  go_enter Try.func3, Try.ntmps3
  go_wp2_with fail
  refine (l3_alive _).mono ?_; rintro e1 w1 ⟨rfl, hb1⟩; have HB := Lib.hid hb1; clear hb1
  go_wp2_with fail
  refine (ref_great L _ _ (H1.out.below HB.out)).mono ?_; rintro e2 w2 ⟨rfl, rfl⟩
  go_wp2_with fail
  refine (ref_of L.length L _ _ (Nat.le_refl _) (by omega) (H1.out.below HB.out)).mono ?_
  rintro e3 w3 ⟨v3, rfl, hi3, hb3⟩
  obtain ⟨b1, k1, rfl⟩ := hi3.form
  have HX := Lib.hid hi3.any
  have HB3 := Lib.hid (HB.out.trans (hb3.mono HB.out.size))
  clear hi3 hb3 HB H1
  generalize (ofN L.length L).1 = X at *
  generalize (ofN L.length L).2 = nx at *
  have hX : X.size ≤ 1000000 := by omega
  clear z1
  go_wp2
  have ha4 : Below w3.heap.size w3 (w3.alloc (.cells #[.int .i64 X.k, .int .i64 X.n, .string X.s, .slice b1 X.args.length k1] 27 (0, 0))) := (Below.refl _ _).alloc (Nat.le_refl _) _
  have hr4 := heap_alloc_new w3 (.cells #[.int .i64 X.k, .int .i64 X.n, .string X.s, .slice b1 X.args.length k1] 27 (0, 0))
  have hz4 : w3.heap.size < (w3.alloc (.cells #[.int .i64 X.k, .int .i64 X.n, .string X.s, .slice b1 X.args.length k1] 27 (0, 0))).heap.size := by simp
  generalize w3.alloc (.cells #[.int .i64 X.k, .int .i64 X.n, .string X.s, .slice b1 X.args.length k1] 27 (0, 0)) = W at *
  refine wp_region_rest (by kernel_rfl) ?_
  have hd := ha4.drew
  have HXW := Lib.hid (HX.out.below hd)
  have HBW := Lib.hid (HB3.out.trans (hd.mono HB3.out.size))
  have HRW : Hid (W.drew.heap[w3.heap.size]? = _) := Lib.hid hr4
  have hpw : w3.heap.size < W.drew.heap.size := hz4
  have b4 : ((checkT X) == (checkT X)) = true := by simp
  have b10 : ((X.size : Int) == (X.size : Int)) = true := by simp
  have hdeep : ∀ W P V, IsTm W P V X → Calls Try.prog 21 #[V] W fun e w' => e = .returned (.int .i64 (deepT X)) ∧ Below W.heap.size W w' := fun W P V h => by
    have := tm_Deep X V P W (by omega) h
    rw [msT_eq] at this
    exact this
  have HDEEP := Lib.hid hdeep
  have b17 : ((deepT X : Int) == (deepT X : Int)) = true := by simp
  obtain ⟨x0, x1, x2, x3⟩ := row4 HRW.out
  clear hdeep hd ha4 hr4 hz4 HX HB3
  generalize W.drew = W0 at *
  generalize w3.heap.size = p at *
  generalize hck : checkT X = ck at *
  have HCK := Lib.hid hck
  clear hck
  refine rest_chain 0 20 [(false, [0, 2]), (true, [1]), (true, [3]), (false, [4, 5, 6, 8]), (true, [7]), (true, [9]), (false, [10, 11, 12, 13, 15]), (true, [14]), (true, [16]), (false, [17, 18, 19])] [(false, [_, _]), (true, [_]), (true, [_]), (false, [_, _, _, _]), (true, [_]), (true, [_]), (false, [_, _, _, _, _]), (true, [_]), (true, [_]), (false, [_, _, _])] rfl (by kernel_rfl) (by kernel_rfl) rfl (by kernel_rfl) (by kernel_rfl) (.inl rfl) ?_
  refine chain_soft ?_
  intro E hE
  go_wp2
  clear x0 x1 x2 x3
  refine chain_one ?_
  intro E hE
  go_wp2_with (refine (tm_Check X _ _ _ (by omega) HXW.out).mono ?_; rintro e8 w8 ⟨rfl, hb8⟩; rw [HCK.out]; have HB8 := Lib.hid hb8; have HC8 := Lib.hid hb8; clear hb8)
  refine ⟨HC8.out, ?_⟩
  refine chain_one ?_
  intro E hE
  go_wp2_with (refine (ref_check X _ _ _ (by omega) (HXW.out.below HB8.out)).mono ?_; rintro e9 w9 ⟨rfl, hb9⟩; rw [HCK.out]; have HB9 := Lib.hid (HB8.out.trans (hb9.mono HB8.out.size)); have HC9 := Lib.hid hb9; clear hb9)
  refine ⟨HC9.out, ?_⟩
  obtain ⟨x0, x1, x2, x3⟩ := row4 ((HB9.out.block p hpw).trans HRW.out)
  refine chain_soft ?_
  intro E hE
  go_wp2
  clear x0 x1 x2 x3
  refine chain_one ?_
  intro E hE
  go_wp2_with (refine (tm_Size X _ _ _ (by omega) (HXW.out.below HB9.out)).mono ?_; rintro e10 w10 ⟨rfl, hb10⟩; have HB10 := Lib.hid (HB9.out.trans (hb10.mono HB9.out.size)); have HC10 := Lib.hid hb10; clear hb10)
  refine ⟨HC10.out, ?_⟩
  refine chain_one ?_
  intro E hE
  go_wp2_with (refine (ref_size _ X _ _ _ (Nat.le_refl _) (by omega) (HXW.out.below HB10.out)).mono ?_; rintro e11 w11 ⟨rfl, hb11⟩; have HB11 := Lib.hid (HB10.out.trans (hb11.mono HB10.out.size)); have HC11 := Lib.hid hb11; clear hb11)
  refine ⟨HC11.out, ?_⟩
  obtain ⟨x0, x1, x2, x3⟩ := row4 ((HB11.out.block p hpw).trans HRW.out)
  refine chain_soft ?_
  intro E hE
  go_wp2
  clear x0 x1 x2 x3
  refine chain_one ?_
  intro E hE
  go_wp2_with (refine (HDEEP.out _ _ _ (HXW.out.below HB11.out)).mono ?_; rintro e12 w12 ⟨rfl, hb12⟩; have HB12 := Lib.hid (HB11.out.trans (hb12.mono HB11.out.size)); have HC12 := Lib.hid hb12; clear hb12)
  refine ⟨HC12.out, ?_⟩
  refine chain_one ?_
  intro E hE
  go_wp2_with (refine (ref_deep _ X _ _ _ (Nat.le_refl _) (by omega) (HXW.out.below HB12.out)).mono ?_; rintro e13 w13 ⟨rfl, hb13⟩; have HB13 := Lib.hid (HB12.out.trans (hb13.mono HB12.out.size)); have HC13 := Lib.hid hb13; clear hb13)
  refine ⟨HC13.out, ?_⟩
  refine chain_soft ?_
  intro E hE
  go_wp2
  refine chain_nil (rest_end (by decide) ?_)
  have HF := Lib.hid (HBW.out.trans (HB13.out.mono HBW.out.size))
  go_wp2
  go_ret
  exact ⟨rfl, HF.out⟩
end Go.Proofs.Ytokhiolimioicaa.Tms
