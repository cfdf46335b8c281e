
/-
  The statements of layer 3: alive, walked over the program.
-/
import Derived.Test.YtmlceamcpelklaaNum
import Derived.Test.YtmlceamcpelklaaGmy
import Derived.Test.YtmlceamcpelklaaCmp
namespace Go.Proofs.Ytmlceamcpelklaa.Tms
open Go Go.RowKit Go.Proofs.Ytmlceamcpelklaa.Reg Go.Proofs.Ytmlceamcpelklaa.Rws
set_option linter.unusedVariables false

abbrev AnyB : Nat → Prop := fun _ => True
abbrev varV (n : Int) : Value := .agg #[.int .i64 1, .int .i64 n, .string ⟨#[]⟩, .slice none 0 0]
def varT (n : Int) : Tm := .mk 1 n ⟨#[]⟩ []
theorem var_is (w : World) (P : Nat → Prop) (n : Int) : IsTm w P (varV n) (varT n) := IsTm.mk' (t := varT n) (IsSl.nil w P none 0)
theorem IsTm.any {w : World} {P : Nat → Prop} {v : Value} {t : Tm} (h : IsTm w P v t) : IsTm w AnyB v t := h.imp (fun _ _ => trivial) fun _ _ _ => rfl
theorem row1 {w : World} {x : Tm} {a : Option Addr} {c : Nat} (hx : IsTm w AnyB (.agg #[.int .i64 x.k, .int .i64 x.n, .string x.s, .slice a x.args.length c]) x) :
    IsSl (w.alloc (.cells #[.int .i64 x.k, .int .i64 x.n, .string x.s, .slice a x.args.length c] 27 (0, 0))) AnyB (.slice (some ⟨w.heap.size, 0, none⟩) 1 1) [x] := by
  have hb : Below w.heap.size w (w.alloc (.cells #[.int .i64 x.k, .int .i64 x.n, .string x.s, .slice a x.args.length c] 27 (0, 0))) := (Below.refl _ _).alloc (Nat.le_refl _) _
  have h := heap_alloc_new w (.cells #[.int .i64 x.k, .int .i64 x.n, .string x.s, .slice a x.args.length c] 27 (0, 0))
  exact sl_of_cells (cs := [.int .i64 x.k, .int .i64 x.n, .string x.s, .slice a x.args.length c]) h (CellsOf.cons (hx.below hb) trivial) rfl trivial
theorem row2 {w : World} {x y : Tm} {a a' : Option Addr} {c c' : Nat} (hx : IsTm w AnyB (.agg #[.int .i64 x.k, .int .i64 x.n, .string x.s, .slice a x.args.length c]) x) (hy : IsTm w AnyB (.agg #[.int .i64 y.k, .int .i64 y.n, .string y.s, .slice a' y.args.length c']) y) :
    IsSl (w.alloc (.cells #[.int .i64 x.k, .int .i64 x.n, .string x.s, .slice a x.args.length c, .int .i64 y.k, .int .i64 y.n, .string y.s, .slice a' y.args.length c'] 27 (0, 0))) AnyB (.slice (some ⟨w.heap.size, 0, none⟩) 2 2) [x, y] := by
  have hb : Below w.heap.size w (w.alloc (.cells #[.int .i64 x.k, .int .i64 x.n, .string x.s, .slice a x.args.length c, .int .i64 y.k, .int .i64 y.n, .string y.s, .slice a' y.args.length c'] 27 (0, 0))) := (Below.refl _ _).alloc (Nat.le_refl _) _
  have h := heap_alloc_new w (.cells #[.int .i64 x.k, .int .i64 x.n, .string x.s, .slice a x.args.length c, .int .i64 y.k, .int .i64 y.n, .string y.s, .slice a' y.args.length c'] 27 (0, 0))
  exact sl_of_cells (cs := [.int .i64 x.k, .int .i64 x.n, .string x.s, .slice a x.args.length c, .int .i64 y.k, .int .i64 y.n, .string y.s, .slice a' y.args.length c']) h (CellsOf.cons (hx.below hb) (CellsOf.cons (hy.below hb) trivial)) rfl trivial

theorem l3_v (n : Int) (w : World) : Calls Try.prog 95 #[.int .i64 n] w fun e w' => e = .returned (varV n) ∧ Below w.heap.size w w' := by
  go_enter Try.func95, Try.ntmps95
  go_wp2
  exact bodyPost_ret (v := varV n) (by simp [results, Try.results95, go_sem]) rfl ⟨rfl, (Below.refl _ _).alloc (Nat.le_refl _) _⟩
theorem l3_a (s : ByteArray) (w : World) : Calls Try.prog 96 #[.string s] w fun e w' => e = .returned (atomV s) ∧ Below w.heap.size w w' := by
  go_enter Try.func96, Try.ntmps96
  go_wp2
  exact bodyPost_ret (v := atomV s) (by simp [results, Try.results96, go_sem]) rfl ⟨rfl, (Below.refl _ _).alloc (Nat.le_refl _) _⟩
theorem l3_f (s : ByteArray) (a : Option Addr) (n cap : Nat) (w : World) : Calls Try.prog 94 #[.string s, .slice a n cap] w fun e w' => e = .returned (compV s a n cap) ∧ Below w.heap.size w w' := by
  go_enter Try.func94, Try.ntmps94
  go_wp2
  exact bodyPost_ret (v := compV s a n cap) (by simp [results, Try.results94, go_sem]) rfl ⟨rfl, (Below.refl _ _).alloc (Nat.le_refl _) _⟩

def exT3 : Tm := compT (⟨#[102]⟩ : ByteArray) [varT 7, compT (⟨#[103]⟩ : ByteArray) [varT 2, varT 7]]
def exN3 : Tm := compT (⟨#[102]⟩ : ByteArray) [varT 0, compT (⟨#[103]⟩ : ByteArray) [varT 1, varT 0]]
def exA3 : Tm := compT (⟨#[102]⟩ : ByteArray) [atomT (⟨#[97]⟩ : ByteArray), atomT (⟨#[98]⟩ : ByteArray)]
def exB3 : Tm := compT (⟨#[103]⟩ : ByteArray) [atomT (⟨#[99]⟩ : ByteArray)]
theorem ex_cmp : cmpT exA3 exB3 = 1 := by decide +kernel
theorem ex_vars : varsT exT3 = [7, 2] := by decide +kernel
theorem ex_num : sameT (numT exT3) exN3 = true := by decide +kernel
theorem ex_check : checkT exT3 = 0 := by decide +kernel
theorem ex_size : exT3.size = 5 := by decide +kernel
theorem ex_deep : (msT exT3).2.2 = 3 := by decide +kernel
theorem ex_nsize : (numT exT3).size = 5 := by decide +kernel

set_option maxRecDepth 100000 in
set_option maxHeartbeats 4000000 in
theorem l3_alive (w : World) : Calls Try.prog 51 #[] w (Says true w) := by
  go_enter Try.func51, Try.ntmps51
  go_wp2_with fail
  refine (l3_v 7 _).mono ?_
  rintro e w1 ⟨rfl, hb1⟩
  have HB1 := Lib.hid (hb1)
  clear hb1
  go_wp2_with fail
  refine (l3_v 2 _).mono ?_
  rintro e w2 ⟨rfl, hb2⟩
  have HB2 := Lib.hid (HB1.out.trans (hb2.mono HB1.out.size))
  clear hb2
  go_wp2_with fail
  refine (l3_v 7 _).mono ?_
  rintro e w3 ⟨rfl, hb3⟩
  have HB3 := Lib.hid (HB2.out.trans (hb3.mono HB2.out.size))
  clear hb3
  go_wp2_with fail
  have ha4 : Below w3.heap.size w3 (w3.alloc (.cells #[.int .i64 1, .int .i64 2, .string ⟨#[]⟩, .slice none 0 0, .int .i64 1, .int .i64 7, .string ⟨#[]⟩, .slice none 0 0] 27 (0, 0))) := (Below.refl _ _).alloc (Nat.le_refl _) _
  have hr4 : IsSl (w3.alloc (.cells #[.int .i64 1, .int .i64 2, .string ⟨#[]⟩, .slice none 0 0, .int .i64 1, .int .i64 7, .string ⟨#[]⟩, .slice none 0 0] 27 (0, 0))) AnyB (.slice (some ⟨w3.heap.size, 0, none⟩) 2 2) [varT 2, varT 7] := row2 (x := varT 2) (y := varT 7) (var_is _ _ 2) (var_is _ _ 7)
  have hz4 : (w3.alloc (.cells #[.int .i64 1, .int .i64 2, .string ⟨#[]⟩, .slice none 0 0, .int .i64 1, .int .i64 7, .string ⟨#[]⟩, .slice none 0 0] 27 (0, 0))).heap.size = w3.heap.size + 1 := by simp
  generalize (w3.alloc (.cells #[.int .i64 1, .int .i64 2, .string ⟨#[]⟩, .slice none 0 0, .int .i64 1, .int .i64 7, .string ⟨#[]⟩, .slice none 0 0] 27 (0, 0))) = u4 at *
  refine (l3_f _ _ _ _ _).mono ?_
  rintro e w4 ⟨rfl, hb4⟩
  have HI4 : Hid (IsTm w4 AnyB (compV (⟨#[103]⟩ : ByteArray) (some ⟨w3.heap.size, 0, none⟩) 2 2) (compT (⟨#[103]⟩ : ByteArray) [varT 2, varT 7])) := Lib.hid (comp_is (l := [varT 2, varT 7]) (hr4.below hb4))
  have HC4 := Lib.hid (ha4.trans (hb4.mono (by omega)))
  have HB4 := Lib.hid (HB3.out.trans (HC4.out.mono HB3.out.size))
  clear ha4 hr4 hz4 hb4
  go_wp2_with fail
  have ha5 : Below w4.heap.size w4 (w4.alloc (.cells #[.int .i64 1, .int .i64 7, .string ⟨#[]⟩, .slice none 0 0, .int .i64 4, .int .i64 0, .string (⟨#[103]⟩ : ByteArray), .slice (some ⟨w3.heap.size, 0, none⟩) 2 2] 27 (0, 0))) := (Below.refl _ _).alloc (Nat.le_refl _) _
  have hr5 : IsSl (w4.alloc (.cells #[.int .i64 1, .int .i64 7, .string ⟨#[]⟩, .slice none 0 0, .int .i64 4, .int .i64 0, .string (⟨#[103]⟩ : ByteArray), .slice (some ⟨w3.heap.size, 0, none⟩) 2 2] 27 (0, 0))) AnyB (.slice (some ⟨w4.heap.size, 0, none⟩) 2 2) [varT 7, compT (⟨#[103]⟩ : ByteArray) [varT 2, varT 7]] := row2 (x := varT 7) (y := compT (⟨#[103]⟩ : ByteArray) [varT 2, varT 7]) (var_is _ _ 7) HI4.out
  have hz5 : (w4.alloc (.cells #[.int .i64 1, .int .i64 7, .string ⟨#[]⟩, .slice none 0 0, .int .i64 4, .int .i64 0, .string (⟨#[103]⟩ : ByteArray), .slice (some ⟨w3.heap.size, 0, none⟩) 2 2] 27 (0, 0))).heap.size = w4.heap.size + 1 := by simp
  generalize (w4.alloc (.cells #[.int .i64 1, .int .i64 7, .string ⟨#[]⟩, .slice none 0 0, .int .i64 4, .int .i64 0, .string (⟨#[103]⟩ : ByteArray), .slice (some ⟨w3.heap.size, 0, none⟩) 2 2] 27 (0, 0))) = u5 at *
  refine (l3_f _ _ _ _ _).mono ?_
  rintro e w5 ⟨rfl, hb5⟩
  have HI5 : Hid (IsTm w5 AnyB (compV (⟨#[102]⟩ : ByteArray) (some ⟨w4.heap.size, 0, none⟩) 2 2) (compT (⟨#[102]⟩ : ByteArray) [varT 7, compT (⟨#[103]⟩ : ByteArray) [varT 2, varT 7]])) := Lib.hid (comp_is (l := [varT 7, compT (⟨#[103]⟩ : ByteArray) [varT 2, varT 7]]) (hr5.below hb5))
  have HC5 := Lib.hid (ha5.trans (hb5.mono (by omega)))
  have HB5 := Lib.hid (HB4.out.trans (HC5.out.mono HB4.out.size))
  clear ha5 hr5 hz5 hb5
  have HT : Hid (IsTm w5 AnyB (compV (⟨#[102]⟩ : ByteArray) (some ⟨w4.heap.size, 0, none⟩) 2 2) exT3) := HI5
  have hab : Below w5.heap.size w5 (w5.alloc (.cells #[.int .i64 4, .int .i64 0, .string (⟨#[102]⟩ : ByteArray), .slice (some ⟨w4.heap.size, 0, none⟩) 2 2] 27 (0, 0))) := (Below.refl _ _).alloc (Nat.le_refl _) _
  have hrow := heap_alloc_new w5 (.cells #[.int .i64 4, .int .i64 0, .string (⟨#[102]⟩ : ByteArray), .slice (some ⟨w4.heap.size, 0, none⟩) 2 2] 27 (0, 0))
  have hasz : (w5.alloc (.cells #[.int .i64 4, .int .i64 0, .string (⟨#[102]⟩ : ByteArray), .slice (some ⟨w4.heap.size, 0, none⟩) 2 2] 27 (0, 0))).heap.size = w5.heap.size + 1 := by simp
  have HAB := Lib.hid hab
  have HROW := Lib.hid hrow
  have HASZ := Lib.hid hasz
  clear hab hrow hasz
  go_wp2_with fail
  refine (tm_Vars exT3 _ _ _ (by rw [ex_size]; omega) (HT.out.below HAB.out)).mono ?_
  rintro e w6 ⟨vv, rfl, hi6, hb6⟩
  rw [ex_vars] at hi6
  obtain ⟨qa, qc, rfl, -, -, hq⟩ := hi6
  obtain ⟨qb, qo, rfl, -, hql, q0⟩ := hq 0 (by decide)
  obtain ⟨qb', qo', e', -, hql', q1⟩ := hq 1 (by decide)
  simp only [Option.some.injEq, Addr.mk.injEq, and_true] at e'
  obtain ⟨rfl, rfl⟩ := e'
  simp only [Nat.add_zero, List.getElem_cons_zero, List.getElem_cons_succ] at q0 q1
  have hrow6 := (hb6.block w5.heap.size (by have := HASZ.out; omega)).trans HROW.out
  have HT6 := Lib.hid ((HT.out.below HAB.out).below hb6)
  have HB6 := Lib.hid (HB5.out.trans ((HAB.out.trans (hb6.mono (by have := HASZ.out; omega))).mono HB5.out.size))
  have hs6 : w5.heap.size < w6.heap.size := by have := HASZ.out; have := hb6.size; omega
  have HROW6 := Lib.hid hrow6
  have HQ : Hid (w6.cell? ⟨qb, qo, none⟩ = some (.int .i64 7) ∧ w6.cell? ⟨qb, qo + 1, none⟩ = some (.int .i64 2) ∧ qb < w6.heap.size) := Lib.hid ⟨q0, q1, hql⟩
  clear hrow6 hb6 q0 q1 hql hql' hq HROW HASZ HAB HT HI5 HI4 HC5 HC4 HB5 HB4 HB3 HB2 HB1
  go_wp2_with fail
  refine (l3_a _ _).mono ?_
  rintro e w7 ⟨rfl, hb7⟩
  have HB7 := Lib.hid (HB6.out.trans (hb7.mono HB6.out.size))
  have HC7 := Lib.hid hb7
  clear hb7
  go_wp2_with fail
  refine (l3_a _ _).mono ?_
  rintro e w8 ⟨rfl, hb8⟩
  have HB8 := Lib.hid (HB7.out.trans (hb8.mono HB7.out.size))
  have HC8 := Lib.hid (HC7.out.trans (hb8.mono HC7.out.size))
  clear hb8
  go_wp2_with fail
  have ha9 : Below w8.heap.size w8 (w8.alloc (.cells #[.int .i64 3, .int .i64 0, .string (⟨#[97]⟩ : ByteArray), .slice none 0 0, .int .i64 3, .int .i64 0, .string (⟨#[98]⟩ : ByteArray), .slice none 0 0] 27 (0, 0))) := (Below.refl _ _).alloc (Nat.le_refl _) _
  have hr9 : IsSl (w8.alloc (.cells #[.int .i64 3, .int .i64 0, .string (⟨#[97]⟩ : ByteArray), .slice none 0 0, .int .i64 3, .int .i64 0, .string (⟨#[98]⟩ : ByteArray), .slice none 0 0] 27 (0, 0))) AnyB (.slice (some ⟨w8.heap.size, 0, none⟩) 2 2) [atomT (⟨#[97]⟩ : ByteArray), atomT (⟨#[98]⟩ : ByteArray)] := row2 (x := atomT (⟨#[97]⟩ : ByteArray)) (y := atomT (⟨#[98]⟩ : ByteArray)) (atom_is _ _ _) (atom_is _ _ _)
  have hz9 : (w8.alloc (.cells #[.int .i64 3, .int .i64 0, .string (⟨#[97]⟩ : ByteArray), .slice none 0 0, .int .i64 3, .int .i64 0, .string (⟨#[98]⟩ : ByteArray), .slice none 0 0] 27 (0, 0))).heap.size = w8.heap.size + 1 := by simp
  generalize (w8.alloc (.cells #[.int .i64 3, .int .i64 0, .string (⟨#[97]⟩ : ByteArray), .slice none 0 0, .int .i64 3, .int .i64 0, .string (⟨#[98]⟩ : ByteArray), .slice none 0 0] 27 (0, 0))) = u9 at *
  refine (l3_f _ _ _ _ _).mono ?_
  rintro e w9 ⟨rfl, hb9⟩
  have HI9 : Hid (IsTm w9 AnyB (compV (⟨#[102]⟩ : ByteArray) (some ⟨w8.heap.size, 0, none⟩) 2 2) (compT (⟨#[102]⟩ : ByteArray) [atomT (⟨#[97]⟩ : ByteArray), atomT (⟨#[98]⟩ : ByteArray)])) := Lib.hid (comp_is (l := [atomT (⟨#[97]⟩ : ByteArray), atomT (⟨#[98]⟩ : ByteArray)]) (hr9.below hb9))
  have HC9 := Lib.hid (ha9.trans (hb9.mono (by omega)))
  have HB9 := Lib.hid (HB8.out.trans (HC9.out.mono HB8.out.size))
  clear ha9 hr9 hz9 hb9
  replace HC9 := Lib.hid (HC8.out.trans (HC9.out.mono HC8.out.size))
  go_wp2_with fail
  refine (l3_a _ _).mono ?_
  rintro e w10 ⟨rfl, hb10⟩
  have HB10 := Lib.hid (HB9.out.trans (hb10.mono HB9.out.size))
  have HC10 := Lib.hid (HC9.out.trans (hb10.mono HC9.out.size))
  have HI10 := Lib.hid (HI9.out.below hb10)
  clear hb10
  go_wp2_with fail
  have ha11 : Below w10.heap.size w10 (w10.alloc (.cells #[.int .i64 3, .int .i64 0, .string (⟨#[99]⟩ : ByteArray), .slice none 0 0] 27 (0, 0))) := (Below.refl _ _).alloc (Nat.le_refl _) _
  have hr11 : IsSl (w10.alloc (.cells #[.int .i64 3, .int .i64 0, .string (⟨#[99]⟩ : ByteArray), .slice none 0 0] 27 (0, 0))) AnyB (.slice (some ⟨w10.heap.size, 0, none⟩) 1 1) [atomT (⟨#[99]⟩ : ByteArray)] := row1 (x := atomT (⟨#[99]⟩ : ByteArray)) (atom_is _ _ _)
  have hz11 : (w10.alloc (.cells #[.int .i64 3, .int .i64 0, .string (⟨#[99]⟩ : ByteArray), .slice none 0 0] 27 (0, 0))).heap.size = w10.heap.size + 1 := by simp
  generalize (w10.alloc (.cells #[.int .i64 3, .int .i64 0, .string (⟨#[99]⟩ : ByteArray), .slice none 0 0] 27 (0, 0))) = u11 at *
  refine (l3_f _ _ _ _ _).mono ?_
  rintro e w11 ⟨rfl, hb11⟩
  have HI11 : Hid (IsTm w11 AnyB (compV (⟨#[103]⟩ : ByteArray) (some ⟨w10.heap.size, 0, none⟩) 1 1) (compT (⟨#[103]⟩ : ByteArray) [atomT (⟨#[99]⟩ : ByteArray)])) := Lib.hid (comp_is (l := [atomT (⟨#[99]⟩ : ByteArray)]) (hr11.below hb11))
  have HC11 := Lib.hid (ha11.trans (hb11.mono (by omega)))
  have HB11 := Lib.hid (HB10.out.trans (HC11.out.mono HB10.out.size))
  clear ha11 hr11 hz11 hb11
  have HI12 := Lib.hid (HI10.out.below HC11.out)
  replace HC11 := Lib.hid (HC10.out.trans (HC11.out.mono HC10.out.size))
  go_wp2_with fail
  refine (tm_Compare exA3 exB3 _ _ _ _ _ (by decide) (by decide) HI12.out HI11.out).mono ?_
  rintro e w12 ⟨rfl, hb12⟩
  rw [ex_cmp]
  have HC12 := Lib.hid (HC11.out.trans (hb12.mono HC11.out.size))
  have HB12 := Lib.hid (HB11.out.trans (hb12.mono HB11.out.size))
  clear hb12 HI12 HI11 HI10 HI9
  have q0 := (HC12.out.cell (p := ⟨qb, qo, none⟩) HQ.out.2.2).trans HQ.out.1
  have q1 := (HC12.out.cell (p := ⟨qb, qo + 1, none⟩) HQ.out.2.2).trans HQ.out.2.1
  have hr12 := (HC12.out.block w5.heap.size hs6).trans HROW6.out
  obtain ⟨r0, r1, r2, r3⟩ := row4 hr12
  have HT12 := Lib.hid (HT6.out.below HC12.out)
  have hs12 : w5.heap.size < w12.heap.size := by have := HC12.out.size; omega
  have HR12 := Lib.hid hr12
  clear hr12 HC7 HC8 HC9 HC10 HC11 HC12 HB6 HB7 HB8 HB9 HB10 HB11
  go_wp2_with fail
  refine (tm_Number exT3 _ _ _ (by rw [ex_size]; omega) HT12.out).mono ?_
  rintro e w13 ⟨v13, rfl, hi13, hb13⟩
  obtain ⟨a13, c13, rfl⟩ := hi13.form
  have HN13 := Lib.hid hi13.any
  have HC13 := Lib.hid hb13
  have HB13 := Lib.hid (HB12.out.trans (hb13.mono HB12.out.size))
  clear hi13 hb13 q0 q1 r0 r1 r2 r3
  go_wp2_with fail
  refine (l3_v 0 _).mono ?_
  rintro e w14 ⟨rfl, hb14⟩
  have HB14 := Lib.hid (HB13.out.trans (hb14.mono HB13.out.size))
  have HC14 := Lib.hid (HC13.out.trans (hb14.mono HC13.out.size))
  have HN14 := Lib.hid (HN13.out.below hb14)
  clear hb14
  go_wp2_with fail
  refine (l3_v 1 _).mono ?_
  rintro e w15 ⟨rfl, hb15⟩
  have HB15 := Lib.hid (HB14.out.trans (hb15.mono HB14.out.size))
  have HC15 := Lib.hid (HC14.out.trans (hb15.mono HC14.out.size))
  have HN15 := Lib.hid (HN14.out.below hb15)
  clear hb15
  go_wp2_with fail
  refine (l3_v 0 _).mono ?_
  rintro e w16 ⟨rfl, hb16⟩
  have HB16 := Lib.hid (HB15.out.trans (hb16.mono HB15.out.size))
  have HC16 := Lib.hid (HC15.out.trans (hb16.mono HC15.out.size))
  have HN16 := Lib.hid (HN15.out.below hb16)
  clear hb16
  go_wp2_with fail
  have ha17 : Below w16.heap.size w16 (w16.alloc (.cells #[.int .i64 1, .int .i64 1, .string ⟨#[]⟩, .slice none 0 0, .int .i64 1, .int .i64 0, .string ⟨#[]⟩, .slice none 0 0] 27 (0, 0))) := (Below.refl _ _).alloc (Nat.le_refl _) _
  have hr17 : IsSl (w16.alloc (.cells #[.int .i64 1, .int .i64 1, .string ⟨#[]⟩, .slice none 0 0, .int .i64 1, .int .i64 0, .string ⟨#[]⟩, .slice none 0 0] 27 (0, 0))) AnyB (.slice (some ⟨w16.heap.size, 0, none⟩) 2 2) [varT 1, varT 0] := row2 (x := varT 1) (y := varT 0) (var_is _ _ 1) (var_is _ _ 0)
  have hz17 : (w16.alloc (.cells #[.int .i64 1, .int .i64 1, .string ⟨#[]⟩, .slice none 0 0, .int .i64 1, .int .i64 0, .string ⟨#[]⟩, .slice none 0 0] 27 (0, 0))).heap.size = w16.heap.size + 1 := by simp
  generalize (w16.alloc (.cells #[.int .i64 1, .int .i64 1, .string ⟨#[]⟩, .slice none 0 0, .int .i64 1, .int .i64 0, .string ⟨#[]⟩, .slice none 0 0] 27 (0, 0))) = u17 at *
  refine (l3_f _ _ _ _ _).mono ?_
  rintro e w17 ⟨rfl, hb17⟩
  have HI17 : Hid (IsTm w17 AnyB (compV (⟨#[103]⟩ : ByteArray) (some ⟨w16.heap.size, 0, none⟩) 2 2) (compT (⟨#[103]⟩ : ByteArray) [varT 1, varT 0])) := Lib.hid (comp_is (l := [varT 1, varT 0]) (hr17.below hb17))
  have HC17 := Lib.hid (ha17.trans (hb17.mono (by omega)))
  have HB17 := Lib.hid (HB16.out.trans (HC17.out.mono HB16.out.size))
  clear ha17 hr17 hz17 hb17
  have HN17 := Lib.hid (HN16.out.below HC17.out)
  replace HC17 := Lib.hid (HC16.out.trans (HC17.out.mono HC16.out.size))
  go_wp2_with fail
  have ha18 : Below w17.heap.size w17 (w17.alloc (.cells #[.int .i64 1, .int .i64 0, .string ⟨#[]⟩, .slice none 0 0, .int .i64 4, .int .i64 0, .string (⟨#[103]⟩ : ByteArray), .slice (some ⟨w16.heap.size, 0, none⟩) 2 2] 27 (0, 0))) := (Below.refl _ _).alloc (Nat.le_refl _) _
  have hr18 : IsSl (w17.alloc (.cells #[.int .i64 1, .int .i64 0, .string ⟨#[]⟩, .slice none 0 0, .int .i64 4, .int .i64 0, .string (⟨#[103]⟩ : ByteArray), .slice (some ⟨w16.heap.size, 0, none⟩) 2 2] 27 (0, 0))) AnyB (.slice (some ⟨w17.heap.size, 0, none⟩) 2 2) [varT 0, compT (⟨#[103]⟩ : ByteArray) [varT 1, varT 0]] := row2 (x := varT 0) (y := compT (⟨#[103]⟩ : ByteArray) [varT 1, varT 0]) (var_is _ _ 0) HI17.out
  have hz18 : (w17.alloc (.cells #[.int .i64 1, .int .i64 0, .string ⟨#[]⟩, .slice none 0 0, .int .i64 4, .int .i64 0, .string (⟨#[103]⟩ : ByteArray), .slice (some ⟨w16.heap.size, 0, none⟩) 2 2] 27 (0, 0))).heap.size = w17.heap.size + 1 := by simp
  generalize (w17.alloc (.cells #[.int .i64 1, .int .i64 0, .string ⟨#[]⟩, .slice none 0 0, .int .i64 4, .int .i64 0, .string (⟨#[103]⟩ : ByteArray), .slice (some ⟨w16.heap.size, 0, none⟩) 2 2] 27 (0, 0))) = u18 at *
  refine (l3_f _ _ _ _ _).mono ?_
  rintro e w18 ⟨rfl, hb18⟩
  have HI18 : Hid (IsTm w18 AnyB (compV (⟨#[102]⟩ : ByteArray) (some ⟨w17.heap.size, 0, none⟩) 2 2) (compT (⟨#[102]⟩ : ByteArray) [varT 0, compT (⟨#[103]⟩ : ByteArray) [varT 1, varT 0]])) := Lib.hid (comp_is (l := [varT 0, compT (⟨#[103]⟩ : ByteArray) [varT 1, varT 0]]) (hr18.below hb18))
  have HC18 := Lib.hid (ha18.trans (hb18.mono (by omega)))
  have HB18 := Lib.hid (HB17.out.trans (HC18.out.mono HB17.out.size))
  clear ha18 hr18 hz18 hb18
  have HN18 := Lib.hid (HN17.out.below HC18.out)
  replace HC18 := Lib.hid (HC17.out.trans (HC18.out.mono HC17.out.size))
  go_wp2_with fail
  refine (ref_same _ (numT exT3) exN3 _ _ _ _ _ (Nat.le_refl _) (by rw [ex_nsize]; omega) HN18.out HI18.out).mono ?_
  rintro e w19 ⟨rfl, hb19⟩
  rw [ex_num]
  have HC19 := Lib.hid (HC18.out.trans (hb19.mono HC18.out.size))
  have HB19 := Lib.hid (HB18.out.trans (hb19.mono HB18.out.size))
  obtain ⟨r0, r1, r2, r3⟩ := row4 ((HC19.out.block w5.heap.size hs12).trans HR12.out)
  have HT19 := Lib.hid (HT12.out.below HC19.out)
  have hs19 : w5.heap.size < w19.heap.size := by have := HC19.out.size; omega
  have HR19 := Lib.hid ((HC19.out.block w5.heap.size hs12).trans HR12.out)
  clear hb19 HN13 HN14 HN15 HN16 HN17 HN18 HI17 HI18 HC13 HC14 HC15 HC16 HC17 HC18 HC19 HB12 HB13 HB14 HB15 HB16 HB17 HB18
  go_wp2_with fail
  refine (tm_Check exT3 _ _ _ (by rw [ex_size]; omega) HT19.out).mono ?_
  rintro e w20 ⟨rfl, hb20⟩
  rw [ex_check]
  have HT20 := Lib.hid (HT19.out.below hb20)
  have HB20 := Lib.hid (HB19.out.trans (hb20.mono HB19.out.size))
  have hr20 := (hb20.block _ hs19).trans HR19.out
  clear r0 r1 r2 r3
  obtain ⟨r0, r1, r2, r3⟩ := row4 hr20
  have hs20 : w5.heap.size < w20.heap.size := by have := hb20.size; omega
  have HR20 := Lib.hid hr20
  clear hb20 hr20 HB19
  go_wp2_with fail
  refine (tm_Size exT3 _ _ _ (by rw [ex_size]; omega) HT20.out).mono ?_
  rintro e w21 ⟨rfl, hb21⟩
  rw [ex_size]
  have HT21 := Lib.hid (HT20.out.below hb21)
  have HB21 := Lib.hid (HB20.out.trans (hb21.mono HB20.out.size))
  have hr21 := (hb21.block _ hs20).trans HR20.out
  clear r0 r1 r2 r3
  obtain ⟨r0, r1, r2, r3⟩ := row4 hr21
  clear hb21 hr21 HB20
  go_wp2_with fail
  refine (tm_Deep exT3 _ _ _ (by rw [ex_size]; omega) HT21.out).mono ?_
  rintro e w22 ⟨rfl, hb22⟩
  rw [ex_deep]
  have HB22 := Lib.hid (HB21.out.trans (hb22.mono HB21.out.size))
  clear hb22 r0 r1 r2 r3
  go_wp2
  go_ret
  exact ⟨rfl, HB22.out⟩
end Go.Proofs.Ytmlceamcpelklaa.Tms
