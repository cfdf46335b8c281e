
/-
  Layer 15's law: its makers of terms walked; the document's examples, reckoned.
  Layer 15's alive, walked over the program (begun).
-/
import Derived.Test.YtmlceamcpelklaaGcm
namespace Go.Proofs.Ytmlceamcpelklaa.Tms
open Go Go.RowKit Go.Proofs.Ytmlceamcpelklaa.Reg
set_option linter.unusedVariables false

theorem l5_v (n : Int) (w : World) : Calls Try.prog 58 #[.int .i64 n] w fun e w' => e = .returned (varV n) ∧ Below w.heap.size w w' := by
  go_enter Try.func58, Try.ntmps58
  go_wp2
  exact bodyPost_ret (v := varV n) (by simp [results, Try.results58, go_sem]) rfl ⟨rfl, (Below.refl _ _).alloc (Nat.le_refl _) _⟩
theorem l5_a (s : ByteArray) (w : World) : Calls Try.prog 59 #[.string s] w fun e w' => e = .returned (atomV s) ∧ Below w.heap.size w w' := by
  go_enter Try.func59, Try.ntmps59
  go_wp2
  exact bodyPost_ret (v := atomV s) (by simp [results, Try.results59, go_sem]) rfl ⟨rfl, (Below.refl _ _).alloc (Nat.le_refl _) _⟩
theorem l5_f (s : ByteArray) (a : Option Addr) (n cap : Nat) (w : World) : Calls Try.prog 18 #[.string s, .slice a n cap] w fun e w' => e = .returned (compV s a n cap) ∧ Below w.heap.size w w' := by
  go_enter Try.func18, Try.ntmps18
  go_wp2
  exact bodyPost_ret (v := compV s a n cap) (by simp [results, Try.results18, go_sem]) rfl ⟨rfl, (Below.refl _ _).alloc (Nat.le_refl _) _⟩

def ex5a : Tm := compT (⟨#[44]⟩ : ByteArray) [varT 0, atomT (⟨#[97]⟩ : ByteArray)]
def ex5b : Tm := compT (⟨#[44]⟩ : ByteArray) [atomT (⟨#[97]⟩ : ByteArray), intT 1]
def ex5c : Tm := compT (⟨#[58, 45]⟩ : ByteArray) [atomT (⟨#[97]⟩ : ByteArray), varT 0]
def ex5r : Tm := compT (⟨#[44]⟩ : ByteArray) [compT (⟨#[99, 97, 108, 108]⟩ : ByteArray) [varT 0], atomT (⟨#[97]⟩ : ByteArray)]
theorem ex5_a : sameT (bodE ex5a).1 ex5r = true ∧ (bodE ex5a).2 = 0 := by decide +kernel
theorem ex5_b : (bodE ex5b).2 = 13 := by decide +kernel
theorem ex5_c : sameT (clsT ex5c).1 (atomT (⟨#[97]⟩ : ByteArray)) = true ∧ sameT (clsT ex5c).2.1 (compT (⟨#[99, 97, 108, 108]⟩ : ByteArray) [varT 0]) = true ∧ (clsT ex5c).2.2.1 = 0 := by decide +kernel
theorem ex5_k : kindT (atomT (⟨#[33]⟩ : ByteArray)) = 6 := by decide +kernel
end Go.Proofs.Ytmlceamcpelklaa.Tms
namespace Go.Proofs.Ytmlceamcpelklaa.Tms
open Go Go.RowKit Go.Proofs.Ytmlceamcpelklaa.Reg
set_option linter.unusedVariables false

theorem l5_fs (s : ByteArray) (l : List Tm) (v : Value) (w : World) (h : IsSl w AnyB v l) : Calls Try.prog 18 #[.string s, v] w fun e w' => ∃ v', e = .returned v' ∧ IsTm w' AnyB v' (compT s l) ∧ Below w.heap.size w w' := by
  obtain ⟨a, c, rfl⟩ := h.form
  refine (l5_f s a _ c w).mono ?_
  rintro e w' ⟨rfl, hb⟩
  exact ⟨_, rfl, comp_is (h.below hb), hb⟩
theorem exz_a : (bodE ex5a).1.size ≤ 1000000000 := by decide +kernel
theorem exz_c : (clsT ex5c).1.size ≤ 1000000000 ∧ (clsT ex5c).2.1.size ≤ 1000000000 := by decide +kernel
set_option maxRecDepth 100000 in
set_option maxHeartbeats 8000000 in
theorem l5_alive (w : World) : Calls Try.prog 14 #[] w (Says true w) := by
  have hA := ex5_a
  have hB := ex5_b
  have hC := ex5_c
  have HA := Lib.hid hA
  have HB := Lib.hid hB
  have HC := Lib.hid hC
  have sA : ex5a.size ≤ 100000000 := by decide
  have sB : ex5b.size ≤ 100000000 := by decide
  have sC : ex5c.size ≤ 100000000 := by decide
  clear hA hB hC
  go_enter Try.func14, Try.ntmps14
  go_wp2_with fail
  refine (l5_v 0 _).mono ?_
  rintro e1 w1 ⟨rfl, hb1⟩
  go_wp2_with fail
  refine (l5_a _ _).mono ?_
  rintro e2 w2 ⟨rfl, hb2⟩
  go_wp2_with fail
  refine (l5_f _ _ _ _ _).mono ?_
  rintro e3 w3 ⟨rfl, hb3⟩
  have i3 : IsTm w3 AnyB (compV (⟨#[44]⟩ : ByteArray) (some ⟨w2.heap.size, 0, none⟩) 2 2) ex5a := comp_is (s := (⟨#[44]⟩ : ByteArray)) (l := [varT 0, atomT (⟨#[97]⟩ : ByteArray)]) ((row2 (w := w2) (x := varT 0) (y := atomT (⟨#[97]⟩ : ByteArray)) (a := none) (c := 0) (a' := none) (c' := 0) (var_is _ _ _) (atom_is _ _ _)).below hb3)
  have hd3 : Below w.heap.size w w3 := hb1.trans ((hb2.mono hb1.size).trans ((((Below.refl _ _).alloc (Nat.le_refl _) _).trans (hb3.mono (by simp))).mono (by have := hb1.size; have := hb2.size; omega)))
  have I3 := Lib.hid i3
  have HD := Lib.hid hd3
  clear i3 hd3 hb1 hb2 hb3
  go_wp2_with fail
  have hgb := goal_Body ex5a _ _ _ sA I3.out
  refine hgb.mono ?_
  clear hgb
  have HZA := Lib.hid exz_a
  generalize bodE ex5a = RA at *
  obtain ⟨TA, eA⟩ := RA
  obtain ⟨a1, a2⟩ := HA.out
  simp only at a1 a2
  subst a2
  have STA : Hid (TA.size ≤ 1000000000) := Lib.hid (by have := HZA.out; simpa using this)
  have A1 := Lib.hid a1
  clear a1
  simp only [BodEPost]
  rintro e4 w4 ⟨q4, c4, rfl, hi4, -, hb4⟩
  have hd4 : Below w.heap.size w (w4.alloc (.cells #[.int .i64 TA.k, .int .i64 TA.n, .string TA.s, .slice q4 TA.args.length c4] 27 (0, 0))) := (HD.out.trans (hb4.mono HD.out.size)).alloc (by have := HD.out.size; have := hb4.size; omega) _
  have hr4 := heap_alloc_new w4 (.cells #[.int .i64 TA.k, .int .i64 TA.n, .string TA.s, .slice q4 TA.args.length c4] 27 (0, 0))
  have hi4' := (hi4.imp (P' := AnyB) (fun _ _ => trivial) fun _ _ _ => rfl).below (show Below w4.heap.size w4 (w4.alloc (.cells #[.int .i64 TA.k, .int .i64 TA.n, .string TA.s, .slice q4 TA.args.length c4] 27 (0, 0))) from (Below.refl _ _).alloc (Nat.le_refl _) _)
  have hs4 : (w4.alloc (.cells #[.int .i64 TA.k, .int .i64 TA.n, .string TA.s, .slice q4 TA.args.length c4] 27 (0, 0))).heap.size = w4.heap.size + 1 := by simp
  have HD4 := Lib.hid hd4
  have HR4 := Lib.hid hr4
  have HI4 := Lib.hid hi4'
  have HS4 := Lib.hid hs4
  clear hi4 hb4 hd4 hr4 hi4' hs4 HD I3
  go_wp2_with fail
  generalize w4.alloc (.cells #[.int .i64 TA.k, .int .i64 TA.n, .string TA.s, .slice q4 TA.args.length c4] 27 (0, 0)) = W1 at *
  generalize w4.heap.size = b1 at *
  refine (l5_a _ _).mono ?_
  rintro e5 w5 ⟨rfl, hb5⟩
  go_wp2_with fail
  refine (l5_f _ _ _ _ _).mono ?_
  rintro e6 w6 ⟨rfl, hb6⟩
  have i6 : IsTm w6 AnyB (compV (⟨#[44]⟩ : ByteArray) (some ⟨w5.heap.size, 0, none⟩) 2 2) ex5b := comp_is (s := (⟨#[44]⟩ : ByteArray)) (l := [atomT (⟨#[97]⟩ : ByteArray), intT 1]) ((row2 (w := w5) (x := atomT (⟨#[97]⟩ : ByteArray)) (y := intT 1) (a := none) (c := 0) (a' := none) (c' := 0) (atom_is _ _ _) (int_is _ _ _)).below hb6)
  have hd6 : Below W1.heap.size W1 w6 := hb5.trans ((((Below.refl _ _).alloc (Nat.le_refl _) _).trans (hb6.mono (by simp))).mono hb5.size)
  have I6 := Lib.hid i6
  have HD6 := Lib.hid hd6
  clear i6 hd6 hb5 hb6
  go_wp2_with fail
  have hgb := goal_Body ex5b _ _ _ sB I6.out
  refine hgb.mono ?_
  clear hgb
  generalize bodE ex5b = RB at *
  obtain ⟨TB, eB⟩ := RB
  have a3 := HB.out
  simp only at a3
  subst a3
  simp only [BodEPost]
  rintro e7 w7 ⟨q7, c7, rfl, hi7, -, hb7⟩
  have hd7 : Below W1.heap.size W1 (w7.alloc (.cells #[.int .i64 TB.k, .int .i64 TB.n, .string TB.s, .slice q7 TB.args.length c7] 27 (0, 0))) := (HD6.out.trans (hb7.mono HD6.out.size)).alloc (by have := HD6.out.size; have := hb7.size; omega) _
  have HD7 := Lib.hid hd7
  clear hi7 hb7 hd7 HD6 I6
  go_wp2_with fail
  generalize w7.alloc (.cells #[.int .i64 TB.k, .int .i64 TB.n, .string TB.s, .slice q7 TB.args.length c7] 27 (0, 0)) = W2 at *
  have HD2 := Lib.hid (HD4.out.trans (HD7.out.mono HD4.out.size))
  have HI2 := Lib.hid (HI4.out.below HD7.out)
  have HR2 := Lib.hid ((HD7.out.block b1 (by have := HS4.out; omega)).trans HR4.out)
  have HS2 : Hid (b1 + 1 ≤ W2.heap.size) := Lib.hid (by have := HS4.out; have := HD7.out.size; omega)
  clear HD4 HI4 HR4 HS4 HD7
  refine (l5_a _ _).mono ?_
  rintro e8 w8 ⟨rfl, hb8⟩
  go_wp2_with fail
  refine (l5_v 0 _).mono ?_
  rintro e9 w9 ⟨rfl, hb9⟩
  go_wp2_with fail
  refine (l5_f _ _ _ _ _).mono ?_
  rintro e10 w10 ⟨rfl, hb10⟩
  have i10 : IsTm w10 AnyB (compV (⟨#[58, 45]⟩ : ByteArray) (some ⟨w9.heap.size, 0, none⟩) 2 2) ex5c := comp_is (s := (⟨#[58, 45]⟩ : ByteArray)) (l := [atomT (⟨#[97]⟩ : ByteArray), varT 0]) ((row2 (w := w9) (x := atomT (⟨#[97]⟩ : ByteArray)) (y := varT 0) (a := none) (c := 0) (a' := none) (c' := 0) (atom_is _ _ _) (var_is _ _ _)).below hb10)
  have hd10 : Below W2.heap.size W2 w10 := hb8.trans ((hb9.mono hb8.size).trans ((((Below.refl _ _).alloc (Nat.le_refl _) _).trans (hb10.mono (by simp))).mono (by have := hb8.size; have := hb9.size; omega)))
  have I10 := Lib.hid i10
  have HD10 := Lib.hid hd10
  clear i10 hd10 hb8 hb9 hb10
  go_wp2_with fail
  have hgc := goal_Clause ex5c _ _ _ sC I10.out
  refine hgc.mono ?_
  clear hgc
  have HZC := Lib.hid exz_c
  generalize clsT ex5c = RC at *
  obtain ⟨CH, CB, eC, CW⟩ := RC
  obtain ⟨a4, a5, a6⟩ := HC.out
  simp only at a4 a5 a6
  subst a6
  have SCH : Hid (CH.size ≤ 1000000000) := Lib.hid HZC.out.1
  have SCB : Hid (CB.size ≤ 1000000000) := Lib.hid HZC.out.2
  have A4 := Lib.hid a4
  have A5 := Lib.hid a5
  clear a4 a5
  simp only [ClsPost]
  rintro e11 w11 ⟨qh, ch, qb, cb, qw, cw, rfl, hih, hib, -, hb11⟩
  have hal3 : Below w11.heap.size w11 (((w11.alloc (.cells #[.int .i64 CH.k, .int .i64 CH.n, .string CH.s, .slice qh CH.args.length ch] 27 (0, 0))).alloc (.cells #[.int .i64 CB.k, .int .i64 CB.n, .string CB.s, .slice qb CB.args.length cb] 27 (0, 0))).alloc (.cells #[.int .i64 CW.k, .int .i64 CW.n, .string CW.s, .slice qw CW.args.length cw] 27 (0, 0))) := (((Below.refl _ _).alloc (Nat.le_refl _) _).alloc (by simp) _).alloc (by simp; omega) _
  obtain ⟨r0, r1, rsz, -⟩ := two w11 (.cells #[.int .i64 CH.k, .int .i64 CH.n, .string CH.s, .slice qh CH.args.length ch] 27 (0, 0)) (.cells #[.int .i64 CB.k, .int .i64 CB.n, .string CB.s, .slice qb CB.args.length cb] 27 (0, 0))
  have HAL := Lib.hid hal3
  have HD11 := Lib.hid (HD10.out.trans (hb11.mono HD10.out.size))
  have HIH := Lib.hid (hih.imp (P' := AnyB) (fun _ _ => trivial) fun _ _ _ => rfl)
  have HIB := Lib.hid (hib.imp (P' := AnyB) (fun _ _ => trivial) fun _ _ _ => rfl)
  have RH := Lib.hid ((heap_alloc_old _ (.cells #[.int .i64 CW.k, .int .i64 CW.n, .string CW.s, .slice qw CW.args.length cw] 27 (0, 0)) (by omega)).trans r0)
  have RB := Lib.hid ((heap_alloc_old _ (.cells #[.int .i64 CW.k, .int .i64 CW.n, .string CW.s, .slice qw CW.args.length cw] 27 (0, 0)) (by omega)).trans r1)
  clear hal3 r0 r1 rsz hih hib hb11 HD10 I10
  go_wp2
  refine wp_region_rest (by kernel_rfl) ?_
  have hd := HAL.out.drew
  have hdW := HD11.out.trans (hd.mono HD11.out.size)
  have HR1 := Lib.hid ((hdW.block b1 (by have := HS2.out; omega)).trans HR2.out)
  have HRH : Hid ((((w11.alloc (.cells #[.int .i64 CH.k, .int .i64 CH.n, .string CH.s, .slice qh CH.args.length ch] 27 (0, 0))).alloc (.cells #[.int .i64 CB.k, .int .i64 CB.n, .string CB.s, .slice qb CB.args.length cb] 27 (0, 0))).alloc (.cells #[.int .i64 CW.k, .int .i64 CW.n, .string CW.s, .slice qw CW.args.length cw] 27 (0, 0))).drew.heap[w11.heap.size]? = _) := Lib.hid RH.out
  have HRB : Hid ((((w11.alloc (.cells #[.int .i64 CH.k, .int .i64 CH.n, .string CH.s, .slice qh CH.args.length ch] 27 (0, 0))).alloc (.cells #[.int .i64 CB.k, .int .i64 CB.n, .string CB.s, .slice qb CB.args.length cb] 27 (0, 0))).alloc (.cells #[.int .i64 CW.k, .int .i64 CW.n, .string CW.s, .slice qw CW.args.length cw] 27 (0, 0))).drew.heap[w11.heap.size + 1]? = _) := Lib.hid RB.out
  have HT := Lib.hid (HI2.out.below hdW)
  have HH := Lib.hid (HIH.out.below hd)
  have HBd := Lib.hid (HIB.out.below hd)
  have HBW := Lib.hid (HD2.out.trans (hdW.mono HD2.out.size))
  have HL1 : Hid (b1 < (((w11.alloc (.cells #[.int .i64 CH.k, .int .i64 CH.n, .string CH.s, .slice qh CH.args.length ch] 27 (0, 0))).alloc (.cells #[.int .i64 CB.k, .int .i64 CB.n, .string CB.s, .slice qb CB.args.length cb] 27 (0, 0))).alloc (.cells #[.int .i64 CW.k, .int .i64 CW.n, .string CW.s, .slice qw CW.args.length cw] 27 (0, 0))).drew.heap.size) := Lib.hid (Array.getElem?_eq_some_iff.1 HR1.out).1
  have HL2 : Hid (w11.heap.size < (((w11.alloc (.cells #[.int .i64 CH.k, .int .i64 CH.n, .string CH.s, .slice qh CH.args.length ch] 27 (0, 0))).alloc (.cells #[.int .i64 CB.k, .int .i64 CB.n, .string CB.s, .slice qb CB.args.length cb] 27 (0, 0))).alloc (.cells #[.int .i64 CW.k, .int .i64 CW.n, .string CW.s, .slice qw CW.args.length cw] 27 (0, 0))).drew.heap.size ∧ w11.heap.size + 1 < (((w11.alloc (.cells #[.int .i64 CH.k, .int .i64 CH.n, .string CH.s, .slice qh CH.args.length ch] 27 (0, 0))).alloc (.cells #[.int .i64 CB.k, .int .i64 CB.n, .string CB.s, .slice qb CB.args.length cb] 27 (0, 0))).alloc (.cells #[.int .i64 CW.k, .int .i64 CW.n, .string CW.s, .slice qw CW.args.length cw] 27 (0, 0))).drew.heap.size) := Lib.hid ⟨(Array.getElem?_eq_some_iff.1 HRH.out).1, (Array.getElem?_eq_some_iff.1 HRB.out).1⟩
  clear hd hdW RH RB HI2 HIH HIB HD2 HR2 HS2 HAL HD11
  generalize (((w11.alloc (.cells #[.int .i64 CH.k, .int .i64 CH.n, .string CH.s, .slice qh CH.args.length ch] 27 (0, 0))).alloc (.cells #[.int .i64 CB.k, .int .i64 CB.n, .string CB.s, .slice qb CB.args.length cb] 27 (0, 0))).alloc (.cells #[.int .i64 CW.k, .int .i64 CW.n, .string CW.s, .slice qw CW.args.length cw] 27 (0, 0))).drew = W0 at *
  generalize w11.heap.size = bh at *
  obtain ⟨x0, x1, x2, x3⟩ := row4 HR1.out
  have K1 := Lib.hid ex5_k
  refine rest_chain 0 38 [(false, [0, 1, 2, 3]), (true, [4]), (true, [5]), (true, [6]), (true, [7]), (true, [8]), (true, [9]), (true, [10]), (false, [11, 12, 13, 14, 15, 16, 17, 18, 19, 20, 21]), (true, [22]), (true, [23]), (false, [24, 25, 26]), (true, [27]), (true, [28]), (true, [29]), (true, [30]), (false, [31, 32]), (true, [33]), (true, [34]), (false, [35, 36, 37])] [(false, [_, _, _, _]), (true, [_]), (true, [_]), (true, [_]), (true, [_]), (true, [_]), (true, [_]), (true, [_]), (false, [_, _, _, _, _, _, _, _, _, _, _]), (true, [_]), (true, [_]), (false, [_, _, _]), (true, [_]), (true, [_]), (true, [_]), (true, [_]), (false, [_, _]), (true, [_]), (true, [_]), (false, [_, _, _])] rfl (by kernel_rfl) (by kernel_rfl) rfl (by kernel_rfl) (by kernel_rfl) (.inl rfl) ?_
  refine chain_soft ?_
  intro E hE
  go_wp2
  clear x0 x1 x2 x3
  refine chain_one ?_
  intro E hE
  go_wp2_with (refine (l5_v 0 _).mono ?_; rintro e1 u1 ⟨rfl, hb1⟩; have HB1 := Lib.hid hb1; clear hb1)
  refine ⟨HB1.out, ?_⟩
  refine chain_one ?_
  intro E hE
  go_wp2
  refine ⟨(Below.refl _ _).alloc (Nat.le_refl _) _, ?_⟩
  have i2 := row1 (w := u1) (x := varT 0) (a := none) (c := 0) (var_is _ _ _)
  have hb2 : Below u1.heap.size u1 (u1.alloc (.cells #[.int .i64 1, .int .i64 0, .string ⟨#[]⟩, .slice none 0 0] 27 (0, 0))) := (Below.refl _ _).alloc (Nat.le_refl _) _
  have I2 : Hid (IsSl (u1.alloc (.cells #[.int .i64 1, .int .i64 0, .string ⟨#[]⟩, .slice none 0 0] 27 (0, 0))) AnyB (.slice (some ⟨u1.heap.size, 0, none⟩) 1 1) [varT 0]) := Lib.hid i2
  have HB2 := Lib.hid (HB1.out.trans (hb2.mono HB1.out.size))
  clear i2 hb2
  generalize u1.alloc (.cells #[.int .i64 1, .int .i64 0, .string ⟨#[]⟩, .slice none 0 0] 27 (0, 0)) = u2 at *
  generalize u1.heap.size = n1 at *
  refine chain_one ?_
  intro E hE
  go_wp2_with (refine (l5_f _ _ _ _ _).mono ?_; rintro e3 u3 ⟨rfl, hb3⟩; have HB3 := Lib.hid hb3; clear hb3)
  refine ⟨HB3.out, ?_⟩
  have I3 : Hid (IsTm u3 AnyB (compV (⟨#[99, 97, 108, 108]⟩ : ByteArray) (some ⟨n1, 0, none⟩) 1 1) (compT (⟨#[99, 97, 108, 108]⟩ : ByteArray) [varT 0])) := Lib.hid (comp_is (l := [varT 0]) (I2.out.below HB3.out))
  replace HB3 := Lib.hid (HB2.out.trans (HB3.out.mono HB2.out.size))
  clear I2
  refine chain_one ?_
  intro E hE
  go_wp2_with (refine (l5_a _ _).mono ?_; rintro e4 u4 ⟨rfl, hb4⟩; have HB4 := Lib.hid hb4; clear hb4)
  refine ⟨HB4.out, ?_⟩
  have I4 := Lib.hid (I3.out.below HB4.out)
  replace HB4 := Lib.hid (HB3.out.trans (HB4.out.mono HB3.out.size))
  clear I3
  refine chain_one ?_
  intro E hE
  go_wp2
  have i5 := row2 (w := u4) (x := compT (⟨#[99, 97, 108, 108]⟩ : ByteArray) [varT 0]) (y := atomT (⟨#[97]⟩ : ByteArray)) (a := some ⟨n1, 0, none⟩) (c := 1) (a' := none) (c' := 0) I4.out (atom_is _ _ _)
  have hb5 : Below u4.heap.size u4 (u4.alloc (.cells #[.int .i64 4, .int .i64 0, .string (⟨#[99, 97, 108, 108]⟩ : ByteArray), .slice (some ⟨n1, 0, none⟩) 1 1, .int .i64 3, .int .i64 0, .string (⟨#[97]⟩ : ByteArray), .slice none 0 0] 27 (0, 0))) := (Below.refl _ _).alloc (Nat.le_refl _) _
  refine ⟨hb5, ?_⟩
  have I5 : Hid (IsSl (u4.alloc (.cells #[.int .i64 4, .int .i64 0, .string (⟨#[99, 97, 108, 108]⟩ : ByteArray), .slice (some ⟨n1, 0, none⟩) 1 1, .int .i64 3, .int .i64 0, .string (⟨#[97]⟩ : ByteArray), .slice none 0 0] 27 (0, 0))) AnyB (.slice (some ⟨u4.heap.size, 0, none⟩) 2 2) [compT (⟨#[99, 97, 108, 108]⟩ : ByteArray) [varT 0], atomT (⟨#[97]⟩ : ByteArray)]) := Lib.hid i5
  have HB5 := Lib.hid (HB4.out.trans (hb5.mono HB4.out.size))
  clear i5 hb5
  generalize u4.alloc (.cells #[.int .i64 4, .int .i64 0, .string (⟨#[99, 97, 108, 108]⟩ : ByteArray), .slice (some ⟨n1, 0, none⟩) 1 1, .int .i64 3, .int .i64 0, .string (⟨#[97]⟩ : ByteArray), .slice none 0 0] 27 (0, 0)) = u5 at *
  generalize u4.heap.size = n4 at *
  refine chain_one ?_
  intro E hE
  go_wp2_with (refine (l5_f _ _ _ _ _).mono ?_; rintro e6 u6 ⟨rfl, hb6⟩; have HB6 := Lib.hid hb6; clear hb6)
  refine ⟨HB6.out, ?_⟩
  have I6 : Hid (IsTm u6 AnyB (compV (⟨#[44]⟩ : ByteArray) (some ⟨n4, 0, none⟩) 2 2) ex5r) := Lib.hid (comp_is (l := [compT (⟨#[99, 97, 108, 108]⟩ : ByteArray) [varT 0], atomT (⟨#[97]⟩ : ByteArray)]) (I5.out.below HB6.out))
  replace HB6 := Lib.hid (HB5.out.trans (HB6.out.mono HB5.out.size))
  clear I5
  refine chain_one ?_
  intro E hE
  go_wp2_with (refine (ref_same _ TA ex5r _ _ _ _ _ (Nat.le_refl _) STA.out (HT.out.below HB6.out) I6.out).mono ?_; rintro e7 u7 ⟨rfl, hb7⟩; rw [A1.out]; have HB7 := Lib.hid hb7; clear hb7)
  refine ⟨HB7.out, ?_⟩
  replace HB7 := Lib.hid (HB6.out.trans (HB7.out.mono HB6.out.size))
  obtain ⟨x0, x1, x2, x3⟩ := row4 ((HB7.out.block _ HL2.out.1).trans HRH.out)
  refine chain_soft ?_
  intro E hE
  go_wp2
  clear x0 x1 x2 x3
  refine chain_one ?_
  intro E hE
  go_wp2_with (refine (l5_a _ _).mono ?_; rintro e8 u8 ⟨rfl, hb8⟩; have HB8 := Lib.hid hb8; clear hb8)
  refine ⟨HB8.out, ?_⟩
  replace HB8 := Lib.hid (HB7.out.trans (HB8.out.mono HB7.out.size))
  refine chain_one ?_
  intro E hE
  go_wp2_with (refine (ref_same _ CH (atomT (⟨#[97]⟩ : ByteArray)) _ _ _ _ _ (Nat.le_refl _) SCH.out (HH.out.below HB8.out) (atom_is _ AnyB _)).mono ?_; rintro e9 u9 ⟨rfl, hb9⟩; rw [A4.out]; have HB9 := Lib.hid hb9; clear hb9)
  refine ⟨HB9.out, ?_⟩
  replace HB9 := Lib.hid (HB8.out.trans (HB9.out.mono HB8.out.size))
  obtain ⟨x0, x1, x2, x3⟩ := row4 ((HB9.out.block _ HL2.out.2).trans HRB.out)
  refine chain_soft ?_
  intro E hE
  go_wp2
  clear x0 x1 x2 x3
  refine chain_one ?_
  intro E hE
  go_wp2_with (refine (l5_v 0 _).mono ?_; rintro e10 u10 ⟨rfl, hb10⟩; have HB10 := Lib.hid hb10; clear hb10)
  refine ⟨HB10.out, ?_⟩
  replace HB10 := Lib.hid (HB9.out.trans (HB10.out.mono HB9.out.size))
  refine chain_one ?_
  intro E hE
  go_wp2
  have i11 := row1 (w := u10) (x := varT 0) (a := none) (c := 0) (var_is _ _ _)
  have hb11 : Below u10.heap.size u10 (u10.alloc (.cells #[.int .i64 1, .int .i64 0, .string ⟨#[]⟩, .slice none 0 0] 27 (0, 0))) := (Below.refl _ _).alloc (Nat.le_refl _) _
  refine ⟨hb11, ?_⟩
  have I11 : Hid (IsSl (u10.alloc (.cells #[.int .i64 1, .int .i64 0, .string ⟨#[]⟩, .slice none 0 0] 27 (0, 0))) AnyB (.slice (some ⟨u10.heap.size, 0, none⟩) 1 1) [varT 0]) := Lib.hid i11
  have HB11 := Lib.hid (HB10.out.trans (hb11.mono HB10.out.size))
  clear i11 hb11
  generalize u10.alloc (.cells #[.int .i64 1, .int .i64 0, .string ⟨#[]⟩, .slice none 0 0] 27 (0, 0)) = u11 at *
  generalize u10.heap.size = n10 at *
  refine chain_one ?_
  intro E hE
  go_wp2_with (refine (l5_f _ _ _ _ _).mono ?_; rintro e12 u12 ⟨rfl, hb12⟩; have HB12 := Lib.hid hb12; clear hb12)
  refine ⟨HB12.out, ?_⟩
  have I12 : Hid (IsTm u12 AnyB (compV (⟨#[99, 97, 108, 108]⟩ : ByteArray) (some ⟨n10, 0, none⟩) 1 1) (compT (⟨#[99, 97, 108, 108]⟩ : ByteArray) [varT 0])) := Lib.hid (comp_is (l := [varT 0]) (I11.out.below HB12.out))
  replace HB12 := Lib.hid (HB11.out.trans (HB12.out.mono HB11.out.size))
  clear I11
  refine chain_one ?_
  intro E hE
  go_wp2_with (refine (ref_same _ CB (compT (⟨#[99, 97, 108, 108]⟩ : ByteArray) [varT 0]) _ _ _ _ _ (Nat.le_refl _) SCB.out (HBd.out.below HB12.out) I12.out).mono ?_; rintro e13 u13 ⟨rfl, hb13⟩; rw [A5.out]; have HB13 := Lib.hid hb13; clear hb13)
  refine ⟨HB13.out, ?_⟩
  replace HB13 := Lib.hid (HB12.out.trans (HB13.out.mono HB12.out.size))
  refine chain_soft ?_
  intro E hE
  go_wp2
  refine chain_one ?_
  intro E hE
  go_wp2_with (refine (l5_a _ _).mono ?_; rintro e14 u14 ⟨rfl, hb14⟩; have HB14 := Lib.hid hb14; clear hb14)
  refine ⟨HB14.out, ?_⟩
  replace HB14 := Lib.hid (HB13.out.trans (HB14.out.mono HB13.out.size))
  refine chain_one ?_
  intro E hE
  go_wp2_with (refine (goal_Kind (atomT (⟨#[33]⟩ : ByteArray)) _ _ _ (by decide) (atom_is _ AnyB _)).mono ?_; rintro e15 u15 ⟨rfl, hb15⟩; rw [K1.out]; have HB15 := Lib.hid hb15; clear hb15)
  refine ⟨HB15.out, ?_⟩
  replace HB15 := Lib.hid (HB14.out.trans (HB15.out.mono HB14.out.size))
  refine chain_soft ?_
  intro E hE
  go_wp2
  refine chain_nil (rest_end (by decide) ?_)
  have HF := Lib.hid (HBW.out.trans (HB15.out.mono HBW.out.size))
  go_wp2
  go_ret
  exact ⟨rfl, HF.out⟩
end Go.Proofs.Ytmlceamcpelklaa.Tms
