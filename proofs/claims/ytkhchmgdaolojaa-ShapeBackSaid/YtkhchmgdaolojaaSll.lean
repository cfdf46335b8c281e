
/-
  The statements of layer 17: alive, walked over the program.
-/
import Derived.Test.YtkhchmgdaolojaaShk
import Derived.Test.YtkhchmgdaolojaaRls
namespace Go.Proofs.Ytkhchmgdaolojaa.Tms
open Go Go.RowKit Go.Proofs.Ytkhchmgdaolojaa.Reg Go.Proofs.Ytkhchmgdaolojaa.Rws
set_option linter.unusedVariables false
set_option linter.unusedSimpArgs false

theorem l17_v (n : Int) (w : World) : Calls Try.prog 29 #[.int .i64 n] w fun e w' => e = .returned (varV n) ∧ Below w.heap.size w w' := by
  go_enter Try.func29, Try.ntmps29
  go_wp2
  exact bodyPost_ret (v := varV n) (by simp [results, Try.results29, go_sem]) rfl ⟨rfl, (Below.refl _ _).alloc (Nat.le_refl _) _⟩
theorem l17_a (s : ByteArray) (w : World) : Calls Try.prog 61 #[.string s] w fun e w' => e = .returned (atomV s) ∧ Below w.heap.size w w' := by
  go_enter Try.func61, Try.ntmps61
  go_wp2
  exact bodyPost_ret (v := atomV s) (by simp [results, Try.results61, go_sem]) rfl ⟨rfl, (Below.refl _ _).alloc (Nat.le_refl _) _⟩
theorem l17_f (s : ByteArray) (a : Option Addr) (n cap : Nat) (w : World) : Calls Try.prog 60 #[.string s, .slice a n cap] w fun e w' => e = .returned (compV s a n cap) ∧ Below w.heap.size w w' := by
  go_enter Try.func60, Try.ntmps60
  go_wp2
  exact bodyPost_ret (v := compV s a n cap) (by simp [results, Try.results60, go_sem]) rfl ⟨rfl, (Below.refl _ _).alloc (Nat.le_refl _) _⟩
theorem l17_i (n : Int) (w : World) : Calls Try.prog 30 #[.int .i64 n] w fun e w' => e = .returned (intV n) ∧ Below w.heap.size w w' := by
  go_enter Try.func30, Try.ntmps30
  go_wp2
  exact bodyPost_ret (v := intV n) (by simp [results, Try.results30, go_sem]) rfl ⟨rfl, (Below.refl _ _).alloc (Nat.le_refl _) _⟩
theorem row3 {w : World} {x y z : Tm} {a a' a'' : Option Addr} {c c' c'' : Nat} (hx : IsTm w AnyB (.agg #[.int .i64 x.k, .int .i64 x.n, .string x.s, .slice a x.args.length c]) x) (hy : IsTm w AnyB (.agg #[.int .i64 y.k, .int .i64 y.n, .string y.s, .slice a' y.args.length c']) y) (hz : IsTm w AnyB (.agg #[.int .i64 z.k, .int .i64 z.n, .string z.s, .slice a'' z.args.length c'']) z) :
    IsSl (w.alloc (.cells #[.int .i64 x.k, .int .i64 x.n, .string x.s, .slice a x.args.length c, .int .i64 y.k, .int .i64 y.n, .string y.s, .slice a' y.args.length c', .int .i64 z.k, .int .i64 z.n, .string z.s, .slice a'' z.args.length c''] 49 (0, 0))) AnyB (.slice (some ⟨w.heap.size, 0, none⟩) 3 3) [x, y, z] := by
  have hb : Below w.heap.size w (w.alloc (.cells #[.int .i64 x.k, .int .i64 x.n, .string x.s, .slice a x.args.length c, .int .i64 y.k, .int .i64 y.n, .string y.s, .slice a' y.args.length c', .int .i64 z.k, .int .i64 z.n, .string z.s, .slice a'' z.args.length c''] 49 (0, 0))) := (Below.refl _ _).alloc (Nat.le_refl _) _
  have h := heap_alloc_new w (.cells #[.int .i64 x.k, .int .i64 x.n, .string x.s, .slice a x.args.length c, .int .i64 y.k, .int .i64 y.n, .string y.s, .slice a' y.args.length c', .int .i64 z.k, .int .i64 z.n, .string z.s, .slice a'' z.args.length c''] 49 (0, 0))
  exact sl_of_cells (cs := [.int .i64 x.k, .int .i64 x.n, .string x.s, .slice a x.args.length c, .int .i64 y.k, .int .i64 y.n, .string y.s, .slice a' y.args.length c', .int .i64 z.k, .int .i64 z.n, .string z.s, .slice a'' z.args.length c'']) h (CellsOf.cons (hx.below hb) (CellsOf.cons (hy.below hb) (CellsOf.cons (hz.below hb) trivial))) rfl trivial
def exF17 : Tm := compT (⟨#[102]⟩ : ByteArray) [atomT (⟨#[97]⟩ : ByteArray), atomT (⟨#[98]⟩ : ByteArray)]
def exG17 : Tm := compT (⟨#[102]⟩ : ByteArray) [atomT (⟨#[97]⟩ : ByteArray)]
def exL17 : Tm := listT [atomT (⟨#[102]⟩ : ByteArray), atomT (⟨#[97]⟩ : ByteArray)] nilT
theorem ex17_ck : checkT exF17 = 0 := by decide +kernel
theorem ex17_cg : checkT exG17 = 0 := by decide +kernel
theorem ex17_cv (n : Int) (h : 0 ≤ n) : checkT (varT n) = 0 := check_zero (by simp [varT, mayT, mayB, mayTL, h]) (by simp [varT, Tm.size, sizeL])
theorem ex17_same : sameT exL17 exL17 = true := by decide +kernel
set_option maxRecDepth 100000 in
set_option maxHeartbeats 4000000 in
theorem l17_alive (w : World) : Calls Try.prog 27 #[] w (Says true w) := by
  go_enter Try.func27, Try.ntmps27
  go_wp2_with fail
  refine (l17_a _ _).mono ?_
  rintro e w1 ⟨rfl, hb1⟩
  have HB1 := Lib.hid hb1
  clear hb1
  go_wp2_with fail
  refine (l17_a _ _).mono ?_
  rintro e w2 ⟨rfl, hb2⟩
  have HB2 := Lib.hid (HB1.out.trans (hb2.mono HB1.out.size))
  clear hb2
  go_wp2_with fail
  have ha3 : Below w2.heap.size w2 (w2.alloc (.cells #[.int .i64 3, .int .i64 0, .string ⟨#[97]⟩, .slice none 0 0, .int .i64 3, .int .i64 0, .string ⟨#[98]⟩, .slice none 0 0] 49 (0, 0))) := (Below.refl _ _).alloc (Nat.le_refl _) _
  have hr3 : IsSl (w2.alloc (.cells #[.int .i64 3, .int .i64 0, .string ⟨#[97]⟩, .slice none 0 0, .int .i64 3, .int .i64 0, .string ⟨#[98]⟩, .slice none 0 0] 49 (0, 0))) AnyB (.slice (some ⟨w2.heap.size, 0, none⟩) 2 2) [atomT (⟨#[97]⟩ : ByteArray), atomT (⟨#[98]⟩ : ByteArray)] := row2 (x := atomT (⟨#[97]⟩ : ByteArray)) (y := atomT (⟨#[98]⟩ : ByteArray)) (a := none) (a' := none) (c := 0) (c' := 0) (atom_is _ _ _) (atom_is _ _ _)
  generalize (w2.alloc (.cells #[.int .i64 3, .int .i64 0, .string ⟨#[97]⟩, .slice none 0 0, .int .i64 3, .int .i64 0, .string ⟨#[98]⟩, .slice none 0 0] 49 (0, 0))) = u3 at *
  have HB3 := Lib.hid (HB2.out.trans (ha3.mono HB2.out.size))
  have HR3 := Lib.hid hr3
  clear ha3 hr3
  refine (l17_f _ _ _ _ _).mono ?_
  rintro e w4 ⟨rfl, hb4⟩
  have HT4 := Lib.hid (show IsTm w4 AnyB _ exF17 from comp_is (HR3.out.below hb4))
  have HB4 := Lib.hid (HB3.out.trans (hb4.mono HB3.out.size))
  clear hb4 HR3
  go_wp2_with fail
  refine (l17_v _ _).mono ?_
  rintro e w5 ⟨rfl, hb5⟩
  have HT5 := Lib.hid (HT4.out.below hb5)
  have HB5 := Lib.hid (HB4.out.trans (hb5.mono HB4.out.size))
  clear hb5 HT4
  go_wp2_with fail
  refine (l17_v _ _).mono ?_
  rintro e w6 ⟨rfl, hb6⟩
  have HT6 := Lib.hid (HT5.out.below hb6)
  have HB6 := Lib.hid (HB5.out.trans (hb6.mono HB5.out.size))
  clear hb6 HT5
  go_wp2_with fail
  have ha7 : Below w6.heap.size w6 (w6.alloc (.cells #[.int .i64 4, .int .i64 0, .string ⟨#[102]⟩, .slice (some ⟨w2.heap.size, 0, none⟩) 2 2, .int .i64 1, .int .i64 0, .string ⟨#[]⟩, .slice none 0 0, .int .i64 1, .int .i64 1, .string ⟨#[]⟩, .slice none 0 0] 49 (0, 0))) := (Below.refl _ _).alloc (Nat.le_refl _) _
  have hr7 : IsSl (w6.alloc (.cells #[.int .i64 4, .int .i64 0, .string ⟨#[102]⟩, .slice (some ⟨w2.heap.size, 0, none⟩) 2 2, .int .i64 1, .int .i64 0, .string ⟨#[]⟩, .slice none 0 0, .int .i64 1, .int .i64 1, .string ⟨#[]⟩, .slice none 0 0] 49 (0, 0))) AnyB (.slice (some ⟨w6.heap.size, 0, none⟩) 3 3) [exF17, varT 0, varT 1] := row3 (x := exF17) (y := varT 0) (z := varT 1) (a := some ⟨w2.heap.size, 0, none⟩) (a' := none) (a'' := none) (c := 2) (c' := 0) (c'' := 0) HT6.out (var_is _ _ _) (var_is _ _ _)
  generalize (w6.alloc (.cells #[.int .i64 4, .int .i64 0, .string ⟨#[102]⟩, .slice (some ⟨w2.heap.size, 0, none⟩) 2 2, .int .i64 1, .int .i64 0, .string ⟨#[]⟩, .slice none 0 0, .int .i64 1, .int .i64 1, .string ⟨#[]⟩, .slice none 0 0] 49 (0, 0))) = u7 at *
  have HB7 := Lib.hid (HB6.out.trans (ha7.mono HB6.out.size))
  clear ha7 HT6
  refine (sh_Do_functor [exF17, varT 0, varT 1] exF17 (varT 0) (varT 1) 1 [atomT (⟨#[102]⟩ : ByteArray), intT 2] AnyB u7 _ _ hr7 rfl (by intro t ht; simp only [List.mem_cons, List.not_mem_nil, or_false] at ht; rcases ht with rfl | rfl | rfl <;> decide +kernel) rfl (.inl ⟨rfl, rfl, rfl⟩)).mono ?_
  rintro e w8 ⟨va, vt, rfl, hi8, hs8, hb8⟩
  obtain ⟨q1, k1, e1⟩ : ∃ q k, va = .slice q 2 k := hi8.firsts
  obtain ⟨q2, k2, e2⟩ : ∃ q k, vt = .slice q 2 k := hs8.form
  subst e1 e2
  have HS8 := Lib.hid hs8
  have HB8 := Lib.hid (HB7.out.trans (hb8.mono HB7.out.size))
  clear hi8 hs8 hb8 hr7
  go_wp2_with fail
  have hr8 := heap_alloc_new w8 (.cells #[.bool true, .slice q1 2 k1, .slice q2 2 k2, .int .i64 0, .int .i64 0, .string ⟨#[]⟩, .slice none 0 0] 71 (0, 0))
  have ha8 : Below w8.heap.size w8 (w8.alloc (.cells #[.bool true, .slice q1 2 k1, .slice q2 2 k2, .int .i64 0, .int .i64 0, .string ⟨#[]⟩, .slice none 0 0] 71 (0, 0))) := (Below.refl _ _).alloc (Nat.le_refl _) _
  generalize (w8.alloc (.cells #[.bool true, .slice q1 2 k1, .slice q2 2 k2, .int .i64 0, .int .i64 0, .string ⟨#[]⟩, .slice none 0 0] 71 (0, 0))) = u8 at *
  have HSA := Lib.hid (HS8.out.below ha8)
  have HRA := Lib.hid hr8
  have HBA := Lib.hid (HB8.out.trans (ha8.mono HB8.out.size))
  clear hr8 ha8 HS8
  refine (l17_a _ _).mono ?_
  rintro e w9 ⟨rfl, hb9⟩
  have HX9 := Lib.hid hb9
  clear hb9
  go_wp2_with fail
  have ha9 : Below w9.heap.size w9 (w9.alloc (.cells #[.int .i64 3, .int .i64 0, .string ⟨#[97]⟩, .slice none 0 0] 49 (0, 0))) := (Below.refl _ _).alloc (Nat.le_refl _) _
  have hr9 : IsSl (w9.alloc (.cells #[.int .i64 3, .int .i64 0, .string ⟨#[97]⟩, .slice none 0 0] 49 (0, 0))) AnyB (.slice (some ⟨w9.heap.size, 0, none⟩) 1 1) [atomT (⟨#[97]⟩ : ByteArray)] := row1 (x := atomT (⟨#[97]⟩ : ByteArray)) (a := none) (c := 0) (atom_is _ _ _)
  generalize (w9.alloc (.cells #[.int .i64 3, .int .i64 0, .string ⟨#[97]⟩, .slice none 0 0] 49 (0, 0))) = u9 at *
  have HY9 := Lib.hid (HX9.out.trans (ha9.mono HX9.out.size))
  have HR9 := Lib.hid hr9
  clear ha9 hr9 HX9
  refine (l17_f _ _ _ _ _).mono ?_
  rintro e w10 ⟨rfl, hb10⟩
  have HT10 := Lib.hid (show IsTm w10 AnyB _ exG17 from comp_is (HR9.out.below hb10))
  have HX10 := Lib.hid (HY9.out.trans (hb10.mono HY9.out.size))
  clear hb10 HR9 HY9
  go_wp2_with fail
  refine (l17_v _ _).mono ?_
  rintro e w11 ⟨rfl, hb11⟩
  have HT11 := Lib.hid (HT10.out.below hb11)
  have HX11 := Lib.hid (HX10.out.trans (hb11.mono HX10.out.size))
  clear hb11 HT10 HX10
  go_wp2_with fail
  have ha12 : Below w11.heap.size w11 (w11.alloc (.cells #[.int .i64 4, .int .i64 0, .string ⟨#[102]⟩, .slice (some ⟨w9.heap.size, 0, none⟩) 1 1, .int .i64 1, .int .i64 0, .string ⟨#[]⟩, .slice none 0 0] 49 (0, 0))) := (Below.refl _ _).alloc (Nat.le_refl _) _
  have hr12 : IsSl (w11.alloc (.cells #[.int .i64 4, .int .i64 0, .string ⟨#[102]⟩, .slice (some ⟨w9.heap.size, 0, none⟩) 1 1, .int .i64 1, .int .i64 0, .string ⟨#[]⟩, .slice none 0 0] 49 (0, 0))) AnyB (.slice (some ⟨w11.heap.size, 0, none⟩) 2 2) [exG17, varT 0] := row2 (x := exG17) (y := varT 0) (a := some ⟨w9.heap.size, 0, none⟩) (a' := none) (c := 1) (c' := 0) HT11.out (var_is _ _ _)
  generalize (w11.alloc (.cells #[.int .i64 4, .int .i64 0, .string ⟨#[102]⟩, .slice (some ⟨w9.heap.size, 0, none⟩) 1 1, .int .i64 1, .int .i64 0, .string ⟨#[]⟩, .slice none 0 0] 49 (0, 0))) = u12 at *
  have HX12 := Lib.hid (HX11.out.trans (ha12.mono HX11.out.size))
  clear ha12 HT11 HX11
  refine (sh_Do_univ [exG17, varT 0] exG17 (varT 0) 1 [exL17] AnyB u12 _ _ hr12 rfl (by intro t ht; simp only [List.mem_cons, List.not_mem_nil, or_false] at ht; rcases ht with rfl | rfl <;> decide +kernel) rfl (.inl ⟨rfl, by decide, rfl, rfl⟩)).mono ?_
  rintro e w13 ⟨va, vt, rfl, hi13, hs13, hb13⟩
  obtain ⟨q3, k3, e1⟩ : ∃ q k, va = .slice q 1 k := hi13.firsts
  obtain ⟨q4, k4, e2⟩ : ∃ q k, vt = .slice q 1 k := hs13.form
  subst e1 e2
  have hbx := HX12.out.trans (hb13.mono HX12.out.size)
  have hal := (Below.refl w13.heap.size w13).alloc (Nat.le_refl _) (.cells #[.bool true, .slice q3 1 k3, .slice q4 1 k4, .int .i64 0, .int .i64 0, .string ⟨#[]⟩, .slice none 0 0] 71 (0, 0))
  have hr13 := heap_alloc_new w13 (.cells #[.bool true, .slice q3 1 k3, .slice q4 1 k4, .int .i64 0, .int .i64 0, .string ⟨#[]⟩, .slice none 0 0] 71 (0, 0))
  have hd := (Below.refl (w13.alloc (.cells #[.bool true, .slice q3 1 k3, .slice q4 1 k4, .int .i64 0, .int .i64 0, .string ⟨#[]⟩, .slice none 0 0] 71 (0, 0))).heap.size (w13.alloc (.cells #[.bool true, .slice q3 1 k3, .slice q4 1 k4, .int .i64 0, .int .i64 0, .string ⟨#[]⟩, .slice none 0 0] 71 (0, 0)))).drew
  have hall := hal.trans (hd.mono hal.size)
  have HRB := Lib.hid (row_on (row_on HRA.out hbx) hall)
  have HRC := Lib.hid (row_on hr13 hd)
  have HSB := Lib.hid ((HSA.out.below hbx).below hall)
  have HSC := Lib.hid ((hs13.below hall).imp (P' := AnyB) (fun _ _ => trivial) (fun _ _ _ => rfl))
  have HBB := Lib.hid (HBA.out.trans ((hbx.mono HBA.out.size).trans (hall.mono (by have := hbx.size; have := HBA.out.size; omega))))
  clear hi13 hs13 hb13 hr12 hbx hal hr13 hd hall HSA HRA
  go_upto_region 3 with fail
  refine wp_region_rest (by kernel_rfl) ?_
  generalize (w13.alloc (.cells #[.bool true, .slice q3 1 k3, .slice q4 1 k4, .int .i64 0, .int .i64 0, .string ⟨#[]⟩, .slice none 0 0] 71 (0, 0))).drew = W at *
  obtain ⟨b0, b1, b2, b3, b4, b5, b6⟩ := row7 HRB.out
  obtain ⟨d0, d1, d2, d3, d4, d5, d6⟩ := row7 HRC.out
  obtain ⟨tb, tt, ea, -⟩ := HSB.out.at 0 (by simp)
  subst ea
  obtain ⟨ub, uo, ea, -⟩ := HSC.out.at 0 (by simp)
  subst ea
  obtain ⟨-, -, -, -, m2, -, -, -⟩ := (HSB.out.atb 0 (by simp)).read
  obtain ⟨-, -, -, n1, -, -, -, -⟩ := (HSB.out.atb 1 (by simp)).read
  obtain ⟨oa, oc, o0, o1, o2, o3, oit, ol⟩ := (HSC.out.atb 0 (by simp)).read
  simp only [List.getElem_cons_zero, List.getElem_cons_succ, Nat.zero_mul, Nat.add_zero, Nat.one_mul] at m2 n1 o0 o1 o2 o3 oit
  replace m2 : W.cell? ⟨tb, tt + 2, none⟩ = some (.string ⟨#[102]⟩) := m2
  replace n1 : W.cell? ⟨tb, tt + 4 + 1, none⟩ = some (.int .i64 2) := n1
  have HOI := Lib.hid oit
  clear oit
  refine rest_lineL 0 38 [_, _, _, _, _, _, _, _, _, _, _, _, _, _, _, _, _, _, _, _, _, _, _, _, _, _, _, _, _, _, _, _, _, _, _, _, _, _] rfl (by kernel_rfl) (by decide) (by decide) (by kernel_rfl) ?_
  go_wp2
  refine then_rest ?_
  refine rest_chainP (fun u => Below W.heap.size W u) 38 48 (.soft 38 (.soft 39 (.soft 40 (.soft 41 (.soft 42 (.one 43 (.one 44 (.two 45 46 (.one 46 (.one 47 .nil)) (.one 45 (.one 47 .nil)))))))))) (.soft _ (.soft _ (.soft _ (.soft _ (.soft _ (.one _ (.one _ (.two _ _ (.one _ (.one _ .nil)) (.one _ (.one _ .nil)))))))))) ⟨rfl, ⟨rfl, ⟨rfl, ⟨rfl, ⟨rfl, ⟨rfl, ⟨rfl, ⟨rfl, rfl, ⟨rfl, ⟨rfl, trivial⟩⟩, ⟨rfl, ⟨rfl, trivial⟩⟩⟩⟩⟩⟩⟩⟩⟩⟩ (by kernel_rfl) (by kernel_rfl) (by kernel_rfl) (by kernel_rfl) (.inr (by kernel_rfl)) (Below.refl _ _) ?_
  have hl13 : w13.heap.size < W.heap.size := (Array.getElem?_eq_some_iff.1 HRC.out).1
  refine chainP_soft (a1 := ?ma1) (by kernel_rfl) (by kernel_rfl) ?mh1 ?mr1
  case mh1 =>
    intro u hu E hE
    go_wp2
    rfl
  refine chainP_soft (a1 := ?ma2) (by kernel_rfl) (by kernel_rfl) ?mh2 ?mr2
  case mh2 =>
    intro u hu E hE
    go_wp2
    rfl
  refine chainP_soft (a1 := ?ma3) (by kernel_rfl) (by kernel_rfl) ?mh3 ?mr3
  case mh3 =>
    intro u hu E hE
    have c0 := (hu.cell (p := ⟨w13.heap.size, 2, none⟩) hl13).trans d2
    go_wp2
    rfl
  refine chainP_soft (a1 := ?ma4) (by kernel_rfl) (by kernel_rfl) ?mh4 ?mr4
  case mh4 =>
    intro u hu E hE
    go_wp2
    rfl
  refine chainP_soft (a1 := ?ma5) (by kernel_rfl) (by kernel_rfl) ?mh5 ?mr5
  case mh5 =>
    intro u hu E hE
    have c0 := (hu.cell (p := ⟨ub, uo, none⟩) ol).trans o0
    have c1 := (hu.cell (p := ⟨ub, uo + 1, none⟩) ol).trans o1
    have c2 := (hu.cell (p := ⟨ub, uo + 2, none⟩) ol).trans o2
    have c3 := (hu.cell (p := ⟨ub, uo + 3, none⟩) ol).trans o3
    go_wp2
    rfl
  clear b0 b1 b2 b3 b4 b5 b6 d0 d1 d2 d3 d4 d5 d6 m2 n1 o0 o1 o2 o3 hl13
  refine chainP_one ?_
  intro E hE
  go_wp2_with (refine (l17_a _ _).mono ?_; rintro e w14 ⟨rfl, hb14⟩)
  refine ⟨hb14, ?_⟩
  refine chainP_one ?_
  intro E hE
  go_wp2_with (refine (l17_a _ _).mono ?_; rintro e w15 ⟨rfl, hb15⟩)
  have h15 := hb14.trans (hb15.mono hb14.size)
  refine ⟨h15, ?_⟩
  clear hb14 hb15
  refine chainP_two ?_ ?_
  · skip
    · intro E hE
      go_wp2
      have hal := (Below.refl w15.heap.size w15).alloc (Nat.le_refl _) ((.cells #[.int .i64 3, .int .i64 0, .string ⟨#[102]⟩, .slice none 0 0, .int .i64 3, .int .i64 0, .string ⟨#[97]⟩, .slice none 0 0] 49 (0, 0)))
      refine ⟨h15.trans (hal.mono h15.size), ?_⟩
      refine chainP_one ?_
      intro E hE
      go_wp2_with (refine (l17_a _ _).mono ?_; rintro e w16 ⟨rfl, hb16⟩)
      have HBQ := Lib.hid (h15.trans ((hal.trans (hb16.mono hal.size)).mono h15.size))
      have HSQ := Lib.hid ((row2 (x := atomT (⟨#[102]⟩ : ByteArray)) (y := atomT (⟨#[97]⟩ : ByteArray)) (a := none) (a' := none) (c := 0) (c' := 0) (atom_is _ _ _) (atom_is _ _ _) : IsSl (w15.alloc (.cells #[.int .i64 3, .int .i64 0, .string ⟨#[102]⟩, .slice none 0 0, .int .i64 3, .int .i64 0, .string ⟨#[97]⟩, .slice none 0 0] 49 (0, 0))) AnyB (.slice (some ⟨w15.heap.size, 0, none⟩) 2 2) _).below hb16)
      refine ⟨HBQ.out, ?_⟩
      refine chainP_one ?_
      intro E hE
      go_wp2_with (refine (ref_List [atomT (⟨#[102]⟩ : ByteArray), atomT (⟨#[97]⟩ : ByteArray)] nilT (.slice (some ⟨w15.heap.size, 0, none⟩) 2 2) _ AnyB AnyB _ (by decide +kernel) HSQ.out (atom_is _ _ _)).mono ?_; rintro e w19 ⟨v19, rfl, hi19, hb19⟩)
      obtain ⟨q19, k19, rfl⟩ := hi19.form
      have HBR := Lib.hid (HBQ.out.trans (hb19.mono HBQ.out.size))
      have HIR := Lib.hid hi19
      have HOR := Lib.hid (HOI.out.below HBR.out)
      refine ⟨HBR.out, ?_⟩
      clear hi19 hb19 HSQ HBQ
      refine chainP_nil ?_
      refine rest_lineL 48 51 [_, _, _] rfl (by kernel_rfl) (by decide) (by decide) (by kernel_rfl) ?_
      go_wp2_with fail
      refine (ref_same 100 exL17 (listT [atomT (⟨#[102]⟩ : ByteArray), atomT (⟨#[97]⟩ : ByteArray)] nilT) _ _ _ _ _ (by decide +kernel) (by decide +kernel) HOR.out HIR.out).mono ?_
      rintro e w20 ⟨rfl, hb20⟩
      rw [show sameT exL17 (listT [atomT (⟨#[102]⟩ : ByteArray), atomT (⟨#[97]⟩ : ByteArray)] nilT) = true from ex17_same]
      have HF := Lib.hid (HBB.out.trans ((HBR.out.trans (hb20.mono HBR.out.size)).mono HBB.out.size))
      clear hb20 HBR HIR HOR
      go_wp2
      refine then_rest (rest_end (by decide) ?_)
      go_wp2
      go_ret
      exact ⟨rfl, HF.out⟩
  · skip
    · intro E hE
      go_wp2_with (refine (l17_a _ _).mono ?_; rintro e w16 ⟨rfl, hb16⟩)
      have h16 := h15.trans (hb16.mono h15.size)
      refine ⟨h16, ?_⟩
      refine chainP_one ?_
      intro E hE
      go_wp2
      have HBQ := Lib.hid (h16.trans (((Below.refl w16.heap.size w16).alloc (Nat.le_refl _) (.cells #[.int .i64 3, .int .i64 0, .string ⟨#[102]⟩, .slice none 0 0, .int .i64 3, .int .i64 0, .string ⟨#[97]⟩, .slice none 0 0] 49 (0, 0))).mono h16.size))
      have HSQ := Lib.hid (show IsSl (w16.alloc (.cells #[.int .i64 3, .int .i64 0, .string ⟨#[102]⟩, .slice none 0 0, .int .i64 3, .int .i64 0, .string ⟨#[97]⟩, .slice none 0 0] 49 (0, 0))) AnyB (.slice (some ⟨w16.heap.size, 0, none⟩) 2 2) _ from row2 (x := atomT (⟨#[102]⟩ : ByteArray)) (y := atomT (⟨#[97]⟩ : ByteArray)) (a := none) (a' := none) (c := 0) (c' := 0) (atom_is _ _ _) (atom_is _ _ _))
      refine ⟨HBQ.out, ?_⟩
      refine chainP_one ?_
      intro E hE
      go_wp2_with (refine (ref_List [atomT (⟨#[102]⟩ : ByteArray), atomT (⟨#[97]⟩ : ByteArray)] nilT (.slice (some ⟨w16.heap.size, 0, none⟩) 2 2) _ AnyB AnyB _ (by decide +kernel) HSQ.out (atom_is _ _ _)).mono ?_; rintro e w19 ⟨v19, rfl, hi19, hb19⟩)
      obtain ⟨q19, k19, rfl⟩ := hi19.form
      have HBR := Lib.hid (HBQ.out.trans (hb19.mono HBQ.out.size))
      have HIR := Lib.hid hi19
      have HOR := Lib.hid (HOI.out.below HBR.out)
      refine ⟨HBR.out, ?_⟩
      clear hi19 hb19 HSQ HBQ
      refine chainP_nil ?_
      refine rest_lineL 48 51 [_, _, _] rfl (by kernel_rfl) (by decide) (by decide) (by kernel_rfl) ?_
      go_wp2_with fail
      refine (ref_same 100 exL17 (listT [atomT (⟨#[102]⟩ : ByteArray), atomT (⟨#[97]⟩ : ByteArray)] nilT) _ _ _ _ _ (by decide +kernel) (by decide +kernel) HOR.out HIR.out).mono ?_
      rintro e w20 ⟨rfl, hb20⟩
      rw [show sameT exL17 (listT [atomT (⟨#[102]⟩ : ByteArray), atomT (⟨#[97]⟩ : ByteArray)] nilT) = true from ex17_same]
      have HF := Lib.hid (HBB.out.trans ((HBR.out.trans (hb20.mono HBR.out.size)).mono HBB.out.size))
      clear hb20 HBR HIR HOR
      go_wp2
      refine then_rest (rest_end (by decide) ?_)
      go_wp2
      go_ret
      exact ⟨rfl, HF.out⟩
end Go.Proofs.Ytkhchmgdaolojaa.Tms
