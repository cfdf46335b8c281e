
/-
  Layer 12: the laws' small functions, and alive, walked over the program (printed by gen_arg.py).
-/
import Derived.Test.YtibjcfbilkkmkaaArf
import Derived.Test.YtibjcfbilkkmkaaChn
import Derived.Test.YtibjcfbilkkmkaaAvd
namespace Go.Proofs.Ytibjcfbilkkmkaa.Tms
open Go Go.RowKit Go.Proofs.Ytibjcfbilkkmkaa.Reg Go.Proofs.Ytibjcfbilkkmkaa.Maps Go.Proofs.Ytibjcfbilkkmkaa.Num
set_option linter.unusedVariables false
set_option linter.unusedSimpArgs false

theorem l12_i (n : Int) (w : World) : Calls Try.prog 41 #[.int .i64 n] w fun e w' => e = .returned (intV n) ∧ Below w.heap.size w w' := by
  go_enter Try.func41, Try.ntmps41
  go_wp2
  exact bodyPost_ret (v := intV n) (by simp [results, Try.results41, go_sem]) rfl ⟨rfl, (Below.refl _ _).alloc (Nat.le_refl _) _⟩
theorem l12_f (s : ByteArray) (a : Option Addr) (n cap : Nat) (w : World) : Calls Try.prog 40 #[.string s, .slice a n cap] w fun e w' => e = .returned (compV s a n cap) ∧ Below w.heap.size w w' := by
  go_enter Try.func40, Try.ntmps40
  go_wp2
  exact bodyPost_ret (v := compV s a n cap) (by simp [results, Try.results40, go_sem]) rfl ⟨rfl, (Below.refl _ _).alloc (Nat.le_refl _) _⟩
/-- f of a slice that reads as terms -/
theorem l12_fs (s : ByteArray) (v : Value) (l : List Tm) (w : World) (h : IsSl w AnyB v l) : Calls Try.prog 40 #[.string s, v] w fun e w' => ∃ v', e = .returned v' ∧ IsTm w' AnyB v' (compT s l) ∧ Below w.heap.size w w' := by
  obtain ⟨a, c, rfl⟩ := h.form
  refine (l12_f s a l.length c w).mono ?_
  rintro e w' ⟨rfl, hb⟩
  exact ⟨_, rfl, comp_is (h.below hb), hb⟩
/-- a result of arith.Eval -/
def EvV (u : World) (v : Value) (r : Int × Int × Tm) : Prop := ∃ v', v = .tuple #[.int .i64 r.1, .int .i64 r.2.1, v'] ∧ IsTm u AnyB v' r.2.2
theorem EvV.below {u u' : World} {v : Value} {r : Int × Int × Tm} (h : EvV u v r) (hb : Below u.heap.size u u') : EvV u' v r := by
  obtain ⟨v', e, h⟩ := h
  exact ⟨v', e, h.below hb⟩
/-- Eval of a term: its value as it lies in any blocks -/
theorem go_EvalA (t : Tm) (v : Value) (w : World) (hM : t.size ≤ 1000000000) (hf : fitT t) (h : IsTm w AnyB v t) : Calls Try.prog 20 #[v] w fun e w' => ∃ v', e = .returned v' ∧ EvV w' v' (evalT t) ∧ Below w.heap.size w w' :=
  (go_Eval t v _ w hM hf h).mono fun e w' ⟨v', he, hi, hb⟩ => ⟨_, he, ⟨v', rfl, hi.any⟩, hb⟩
def x12a : Tm := compT (⟨#[43]⟩ : ByteArray) [intT 1, compT (⟨#[42]⟩ : ByteArray) [intT 2, intT 3]]
def x12b : Tm := compT (⟨#[43]⟩ : ByteArray) [atomT (⟨#[102, 111, 111]⟩ : ByteArray), intT 1]
def x12c : Tm := compT (⟨#[47, 47]⟩ : ByteArray) [intT 1, intT 0]
def x12d : Tm := compT (⟨#[43]⟩ : ByteArray) [varT 0, atomT (⟨#[102, 111, 111]⟩ : ByteArray)]
theorem ev_a : evalT x12a = (7, 0, zT) := by kernel_rfl
theorem ev_b : evalT x12b = (0, 13, indT (⟨#[102, 111, 111]⟩ : ByteArray) 0) := by kernel_rfl
theorem ev_c : evalT x12c = (0, 10, zT) := by kernel_rfl
theorem ev_d : evalT x12d = (0, 12, zT) := by kernel_rfl
theorem fit_small {n : Int} (h : -1000 ≤ n ∧ n ≤ 1000) : Fit n := by unfold Fit; omega
theorem fx_a : fitT x12a := by simp only [x12a, compT, intT, fitT, fitL]; decide
theorem fx_b : fitT x12b := by simp only [x12b, compT, intT, atomT, fitT, fitL]; decide
theorem fx_c : fitT x12c := by simp only [x12c, compT, intT, fitT, fitL]; decide
theorem fx_d : fitT x12d := by simp only [x12d, compT, varT, atomT, fitT, fitL]; decide
set_option maxRecDepth 100000 in
set_option maxHeartbeats 4000000 in
theorem l12_alive (w : World) : Calls Try.prog 19 #[] w (Says true w) := by
  have HB := Lib.hid (Below.refl w.heap.size w)
  go_enter Try.func19, Try.ntmps19
  go_upto_region 2 with fail
  have hbq := below_new w (.cells #[.int .i64 3, .int .i64 0, .string (⟨#[102, 111, 111]⟩ : ByteArray), .slice none 0 0] 30 (0, 0))
  have hq := heap_alloc_new w (.cells #[.int .i64 3, .int .i64 0, .string (⟨#[102, 111, 111]⟩ : ByteArray), .slice none 0 0] 30 (0, 0))
  have hzq : w.heap.size < (w.alloc (.cells #[.int .i64 3, .int .i64 0, .string (⟨#[102, 111, 111]⟩ : ByteArray), .slice none 0 0] 30 (0, 0))).heap.size := by simp
  replace HB := Lib.hid (HB.out.trans (hbq.mono HB.out.size))
  have HR1 := Lib.hid hq
  clear hbq hq
  generalize w.alloc (.cells #[.int .i64 3, .int .i64 0, .string (⟨#[102, 111, 111]⟩ : ByteArray), .slice none 0 0] 30 (0, 0)) = W1 at *
  skip
  go_wp2_with fail
  refine (l12_i 1 _).mono ?_
  rintro eu1 u1 ⟨rfl, hbq⟩
  replace HR1 := Lib.hid (row_on HR1.out hbq)
  replace HB := Lib.hid (HB.out.trans (hbq.mono HB.out.size))
  clear hbq
  go_wp2_with fail
  refine (l12_i 2 _).mono ?_
  rintro eu2 u2 ⟨rfl, hbq⟩
  replace HR1 := Lib.hid (row_on HR1.out hbq)
  replace HB := Lib.hid (HB.out.trans (hbq.mono HB.out.size))
  clear hbq
  go_wp2_with fail
  refine (l12_i 3 _).mono ?_
  rintro eu3 u3 ⟨rfl, hbq⟩
  replace HR1 := Lib.hid (row_on HR1.out hbq)
  replace HB := Lib.hid (HB.out.trans (hbq.mono HB.out.size))
  clear hbq
  go_wp2_with fail
  have hs2 := row2 (w := u3) (x := (intT 2)) (y := (intT 3)) (int_is _ _ _) (int_is _ _ _)
  have hbq := below_new u3 (.cells #[.int .i64 2, .int .i64 2, .string ⟨#[]⟩, .slice none 0 0, .int .i64 2, .int .i64 3, .string ⟨#[]⟩, .slice none 0 0] 30 (0, 0))
  replace HR1 := Lib.hid (row_on HR1.out hbq)
  replace HB := Lib.hid (HB.out.trans (hbq.mono HB.out.size))
  have HS4 : Hid (IsSl (u3.alloc (.cells #[.int .i64 2, .int .i64 2, .string ⟨#[]⟩, .slice none 0 0, .int .i64 2, .int .i64 3, .string ⟨#[]⟩, .slice none 0 0] 30 (0, 0))) AnyB (.slice (some ⟨u3.heap.size, 0, none⟩) 2 2) [(intT 2), (intT 3)]) := Lib.hid hs2
  clear hs2 hbq
  generalize u3.alloc (.cells #[.int .i64 2, .int .i64 2, .string ⟨#[]⟩, .slice none 0 0, .int .i64 2, .int .i64 3, .string ⟨#[]⟩, .slice none 0 0] 30 (0, 0)) = u4 at *
  refine (l12_fs (⟨#[42]⟩ : ByteArray) _ _ _ HS4.out).mono ?_
  rintro eu5 u5 ⟨vu5, rfl, hiq, hbq⟩
  replace HR1 := Lib.hid (row_on HR1.out hbq)
  replace HS4 := Lib.hid (HS4.out.below hbq)
  replace HB := Lib.hid (HB.out.trans (hbq.mono HB.out.size))
  have H5 := Lib.hid hiq
  clear hiq hbq
  obtain ⟨aH5, cH5, rfl⟩ := H5.out.form
  clear HS4
  go_wp2_with fail
  have hs2 := row2 (w := u5) (x := (intT 1)) (y := (compT (⟨#[42]⟩ : ByteArray) [intT 2, intT 3])) (int_is _ _ _) H5.out
  have hbq := below_new u5 (.cells #[.int .i64 2, .int .i64 1, .string ⟨#[]⟩, .slice none 0 0, .int .i64 (compT (⟨#[42]⟩ : ByteArray) [intT 2, intT 3]).k, .int .i64 (compT (⟨#[42]⟩ : ByteArray) [intT 2, intT 3]).n, .string (compT (⟨#[42]⟩ : ByteArray) [intT 2, intT 3]).s, .slice aH5 (compT (⟨#[42]⟩ : ByteArray) [intT 2, intT 3]).args.length cH5] 30 (0, 0))
  replace HR1 := Lib.hid (row_on HR1.out hbq)
  replace H5 := Lib.hid (H5.out.below hbq)
  replace HB := Lib.hid (HB.out.trans (hbq.mono HB.out.size))
  have HS6 : Hid (IsSl (u5.alloc (.cells #[.int .i64 2, .int .i64 1, .string ⟨#[]⟩, .slice none 0 0, .int .i64 (compT (⟨#[42]⟩ : ByteArray) [intT 2, intT 3]).k, .int .i64 (compT (⟨#[42]⟩ : ByteArray) [intT 2, intT 3]).n, .string (compT (⟨#[42]⟩ : ByteArray) [intT 2, intT 3]).s, .slice aH5 (compT (⟨#[42]⟩ : ByteArray) [intT 2, intT 3]).args.length cH5] 30 (0, 0))) AnyB (.slice (some ⟨u5.heap.size, 0, none⟩) 2 2) [(intT 1), (compT (⟨#[42]⟩ : ByteArray) [intT 2, intT 3])]) := Lib.hid hs2
  clear hs2 hbq
  generalize u5.alloc (.cells #[.int .i64 2, .int .i64 1, .string ⟨#[]⟩, .slice none 0 0, .int .i64 (compT (⟨#[42]⟩ : ByteArray) [intT 2, intT 3]).k, .int .i64 (compT (⟨#[42]⟩ : ByteArray) [intT 2, intT 3]).n, .string (compT (⟨#[42]⟩ : ByteArray) [intT 2, intT 3]).s, .slice aH5 (compT (⟨#[42]⟩ : ByteArray) [intT 2, intT 3]).args.length cH5] 30 (0, 0)) = u6 at *
  refine (l12_fs (⟨#[43]⟩ : ByteArray) _ _ _ HS6.out).mono ?_
  rintro eu7 u7 ⟨vu7, rfl, hiq, hbq⟩
  replace HR1 := Lib.hid (row_on HR1.out hbq)
  replace H5 := Lib.hid (H5.out.below hbq)
  replace HS6 := Lib.hid (HS6.out.below hbq)
  replace HB := Lib.hid (HB.out.trans (hbq.mono HB.out.size))
  have H7 := Lib.hid hiq
  clear hiq hbq
  obtain ⟨aH7, cH7, rfl⟩ := H7.out.form
  clear HS6 H5
  go_wp2_with fail
  refine (go_EvalA x12a _ _ (by decide) fx_a H7.out).mono ?_
  rintro eu8 u8 ⟨vu8, rfl, hiq, hbq⟩
  replace HR1 := Lib.hid (row_on HR1.out hbq)
  replace H7 := Lib.hid (H7.out.below hbq)
  replace HB := Lib.hid (HB.out.trans (hbq.mono HB.out.size))
  rw [ev_a] at hiq
  obtain ⟨qH8, rfl, hiq⟩ := hiq
  simp only at hiq ⊢
  have H8 := Lib.hid hiq
  clear hiq hbq
  obtain ⟨aH8, cH8, rfl⟩ := H8.out.form
  clear H7
  go_upto_region 3 with fail
  have hbq := below_new u8 (.cells #[.int .i64 zT.k, .int .i64 zT.n, .string zT.s, .slice aH8 zT.args.length cH8] 30 (0, 0))
  have hq := heap_alloc_new u8 (.cells #[.int .i64 zT.k, .int .i64 zT.n, .string zT.s, .slice aH8 zT.args.length cH8] 30 (0, 0))
  have hzq : u8.heap.size < (u8.alloc (.cells #[.int .i64 zT.k, .int .i64 zT.n, .string zT.s, .slice aH8 zT.args.length cH8] 30 (0, 0))).heap.size := by simp
  replace HR1 := Lib.hid (row_on HR1.out hbq)
  replace H8 := Lib.hid (H8.out.below hbq)
  replace HB := Lib.hid (HB.out.trans (hbq.mono HB.out.size))
  clear hbq hq
  generalize u8.alloc (.cells #[.int .i64 zT.k, .int .i64 zT.n, .string zT.s, .slice aH8 zT.args.length cH8] 30 (0, 0)) = u9 at *
  clear H8
  refine wp_region_rest (by kernel_rfl) ?_
  have hd := (Below.refl u9.heap.size u9).drew
  replace HR1 := Lib.hid (row_on HR1.out hd)
  replace HB := Lib.hid (HB.out.trans (hd.mono HB.out.size))
  clear hd
  generalize u9.drew = W0 at *
  have hW0 := HB.out.size
  refine rest_opsL 0 12 91 [_, _, _, _, _, _, _, _, _, _, _, _] (pk 0 [isV ?a1_0, isV (intV 1), fun v u => IsSl u AnyB v [atomT (⟨#[102, 111, 111]⟩ : ByteArray), intT 1], fun v u => IsTm u AnyB v x12b, fun v u => EvV u v (0, 13, indT (⟨#[102, 111, 111]⟩ : ByteArray) 0), fun v u => EvV u v (0, 13, indT (⟨#[102, 111, 111]⟩ : ByteArray) 0), isV (.int .i64 0), isV (.int .i64 13), fun v u => IsTm u AnyB v (indT (⟨#[102, 111, 111]⟩ : ByteArray) 0), fun v u => NewVar W0.heap.size #[.int .i64 0, .int .i64 0, .string ⟨#[]⟩, .slice none 0 0] 30 v u, isV ?a1_10, isV ?a1_11]) (fun j => match j with | 9 => ptrBlk | _ => fun _ => none) rfl (by kernel_rfl) (by kernel_rfl) rfl (.inr (by kernel_rfl)) ?hS1 ?hop1 ?_
  case hop1 =>
    refine hops_cons ?_ ?_
    · intro v u hu hs Q' hQ
      simp only [putAll, dstOf]
      obtain ⟨f0, f1, f2, f3⟩ := row4 (row_on HR1.out hu)
      clear hs
      go_wp2
      exact ⟨rfl, Below.refl _ _, by (show _ = _; rfl), fun _ h => nomatch h⟩
    refine hops_cons ?_ ?_
    · intro v u hu hs Q' hQ
      simp only [putAll, dstOf]
      obtain ⟨f0, f1, f2, f3⟩ := row4 (row_on HR1.out hu)
      clear hs
      go_wp2_with (go_at_call 41; refine (l12_i 1 _).mono ?_; rintro e1 w1 ⟨rfl, hb1⟩)
      exact ⟨rfl, hb1, rfl, fun _ h => nomatch h⟩
    refine hops_cons ?_ ?_
    · intro v u hu hs Q' hQ
      simp only [putAll, dstOf]
      have s_0 : v 0 = _ := hs 0 (by kernel_rfl) (by decide) (by decide)
      have s_1 : v 1 = intV 1 := hs 1 (by kernel_rfl) (by decide) (by decide)
      clear hs
      go_wp2
      exact ⟨rfl, (Below.refl _ _).alloc (Nat.le_refl _) _, row2 (x := atomT (⟨#[102, 111, 111]⟩ : ByteArray)) (y := intT 1) (atom_is _ _ _) (int_is _ _ _), fun _ h => nomatch h⟩
    refine hops_cons ?_ ?_
    · intro v u hu hs Q' hQ
      simp only [putAll, dstOf]
      have s_1 : v 1 = intV 1 := hs 1 (by kernel_rfl) (by decide) (by decide)
      have s_2 : IsSl u AnyB (v 2) [atomT (⟨#[102, 111, 111]⟩ : ByteArray), intT 1] := hs 2 (by kernel_rfl) (by decide) (by decide)
      obtain ⟨f0, f1, f2, f3⟩ := row4 (row_on HR1.out hu)
      clear hs
      go_wp2_with (go_at_call 40; refine (l12_fs (⟨#[43]⟩ : ByteArray) _ _ _ s_2).mono ?_; rintro e1 w1 ⟨v1, rfl, hi1, hb1⟩)
      exact ⟨rfl, hb1, hi1, fun _ h => nomatch h⟩
    refine hops_cons ?_ ?_
    · intro v u hu hs Q' hQ
      simp only [putAll, dstOf]
      have s_3 : IsTm u AnyB (v 3) x12b := hs 3 (by kernel_rfl) (by decide) (by decide)
      obtain ⟨f0, f1, f2, f3⟩ := row4 (row_on HR1.out hu)
      clear hs
      go_wp2_with (go_at_call 20; refine (go_EvalA x12b _ _ (by decide) fx_b s_3).mono ?_; rintro e1 w1 ⟨v1, rfl, hi1, hb1⟩; rw [ev_b] at hi1)
      exact ⟨rfl, hb1, hi1, fun _ h => nomatch h⟩
    refine hops_cons ?_ ?_
    · intro v u hu hs Q' hQ
      simp only [putAll, dstOf]
      have s_4 : EvV u (v 4) (0, 13, indT (⟨#[102, 111, 111]⟩ : ByteArray) 0) := hs 4 (by kernel_rfl) (by decide) (by decide)
      clear hs
      go_wp2
      exact ⟨rfl, Below.refl _ _, s_4, fun _ h => nomatch h⟩
    refine hops_cons ?_ ?_
    · intro v u hu hs Q' hQ
      simp only [putAll, dstOf]
      have s_5 : EvV u (v 5) (0, 13, indT (⟨#[102, 111, 111]⟩ : ByteArray) 0) := hs 5 (by kernel_rfl) (by decide) (by decide)
      obtain ⟨f0, f1, f2, f3⟩ := row4 (row_on HR1.out hu)
      clear hs
      (obtain ⟨q, hq, -⟩ := s_5; rw [hq]; go_wp2)
      exact ⟨rfl, Below.refl _ _, by (show _ = _; rfl), fun _ h => nomatch h⟩
    refine hops_cons ?_ ?_
    · intro v u hu hs Q' hQ
      simp only [putAll, dstOf]
      have s_5 : EvV u (v 5) (0, 13, indT (⟨#[102, 111, 111]⟩ : ByteArray) 0) := hs 5 (by kernel_rfl) (by decide) (by decide)
      obtain ⟨f0, f1, f2, f3⟩ := row4 (row_on HR1.out hu)
      clear hs
      (obtain ⟨q, hq, -⟩ := s_5; rw [hq]; go_wp2)
      exact ⟨rfl, Below.refl _ _, by (show _ = _; rfl), fun _ h => nomatch h⟩
    refine hops_cons ?_ ?_
    · intro v u hu hs Q' hQ
      simp only [putAll, dstOf]
      have s_5 : EvV u (v 5) (0, 13, indT (⟨#[102, 111, 111]⟩ : ByteArray) 0) := hs 5 (by kernel_rfl) (by decide) (by decide)
      obtain ⟨f0, f1, f2, f3⟩ := row4 (row_on HR1.out hu)
      clear hs
      (obtain ⟨q, hq, hi⟩ := s_5; rw [hq]; go_wp2)
      exact ⟨rfl, Below.refl _ _, hi, fun _ h => nomatch h⟩
    refine hops_cons ?_ ?_
    · intro v u hu hs Q' hQ
      simp only [putAll, dstOf]
      clear hs
      go_wp2
      exact NewVar.made hu rfl rfl
    refine hops_cons ?_ ?_
    · intro v u hu hs Q' hQ
      simp only [putAll, dstOf]
      have s_0 : v 0 = _ := hs 0 (by kernel_rfl) (by decide) (by decide)
      have s_1 : v 1 = intV 1 := hs 1 (by kernel_rfl) (by decide) (by decide)
      have s_2 : IsSl u AnyB (v 2) [atomT (⟨#[102, 111, 111]⟩ : ByteArray), intT 1] := hs 2 (by kernel_rfl) (by decide) (by decide)
      have s_3 : IsTm u AnyB (v 3) x12b := hs 3 (by kernel_rfl) (by decide) (by decide)
      have s_4 : EvV u (v 4) (0, 13, indT (⟨#[102, 111, 111]⟩ : ByteArray) 0) := hs 4 (by kernel_rfl) (by decide) (by decide)
      have s_5 : EvV u (v 5) (0, 13, indT (⟨#[102, 111, 111]⟩ : ByteArray) 0) := hs 5 (by kernel_rfl) (by decide) (by decide)
      have s_6 : v 6 = .int .i64 0 := hs 6 (by kernel_rfl) (by decide) (by decide)
      have s_9 : NewVar W0.heap.size #[.int .i64 0, .int .i64 0, .string ⟨#[]⟩, .slice none 0 0] 30 (v 9) u := hs 9 (by kernel_rfl) (by decide) (by decide)
      clear hs
      go_wp2
      exact ⟨rfl, Below.refl _ _, by (show _ = _; rfl), fun _ h => nomatch h⟩
    refine hops_cons ?_ ?_
    · intro v u hu hs Q' hQ
      simp only [putAll, dstOf]
      have s_0 : v 0 = _ := hs 0 (by kernel_rfl) (by decide) (by decide)
      have s_1 : v 1 = intV 1 := hs 1 (by kernel_rfl) (by decide) (by decide)
      have s_2 : IsSl u AnyB (v 2) [atomT (⟨#[102, 111, 111]⟩ : ByteArray), intT 1] := hs 2 (by kernel_rfl) (by decide) (by decide)
      have s_3 : IsTm u AnyB (v 3) x12b := hs 3 (by kernel_rfl) (by decide) (by decide)
      have s_4 : EvV u (v 4) (0, 13, indT (⟨#[102, 111, 111]⟩ : ByteArray) 0) := hs 4 (by kernel_rfl) (by decide) (by decide)
      have s_5 : EvV u (v 5) (0, 13, indT (⟨#[102, 111, 111]⟩ : ByteArray) 0) := hs 5 (by kernel_rfl) (by decide) (by decide)
      have s_6 : v 6 = .int .i64 0 := hs 6 (by kernel_rfl) (by decide) (by decide)
      have s_7 : v 7 = .int .i64 13 := hs 7 (by kernel_rfl) (by decide) (by decide)
      have s_9 : NewVar W0.heap.size #[.int .i64 0, .int .i64 0, .string ⟨#[]⟩, .slice none 0 0] 30 (v 9) u := hs 9 (by kernel_rfl) (by decide) (by decide)
      have s_10 : v 10 = _ := hs 10 (by kernel_rfl) (by decide) (by decide)
      clear hs
      go_wp2
      exact ⟨rfl, Below.refl _ _, by (show _ = _; rfl), fun _ h => nomatch h⟩
    exact hops_nil
  case hS1 =>
    intro j v u u' hkj hjn h hb
    match j, hkj, hjn, h with
    | 0, _, _, h => exact h
    | 1, _, _, h => exact h
    | 2, _, _, h => exact h.below hb
    | 3, _, _, h => exact h.below hb
    | 4, _, _, h => exact h.below hb
    | 5, _, _, h => exact h.below hb
    | 6, _, _, h => exact h
    | 7, _, _, h => exact h
    | 8, _, _, h => exact h.below hb
    | 9, _, _, h => exact h.below hb
    | 10, _, _, h => exact h
    | 11, _, _, h => exact h
    | q + 12, _, hq, _ => exact absurd hq (by omega)
  intro v u hu hs hap
  have s_0 : v 0 = _ := hs 0 (by decide) (by decide)
  have s_1 : v 1 = intV 1 := hs 1 (by decide) (by decide)
  have s_2 : IsSl u AnyB (v 2) [atomT (⟨#[102, 111, 111]⟩ : ByteArray), intT 1] := hs 2 (by decide) (by decide)
  have s_3 : IsTm u AnyB (v 3) x12b := hs 3 (by decide) (by decide)
  have s_4 : EvV u (v 4) (0, 13, indT (⟨#[102, 111, 111]⟩ : ByteArray) 0) := hs 4 (by decide) (by decide)
  have s_5 : EvV u (v 5) (0, 13, indT (⟨#[102, 111, 111]⟩ : ByteArray) 0) := hs 5 (by decide) (by decide)
  have s_6 : v 6 = .int .i64 0 := hs 6 (by decide) (by decide)
  have s_7 : v 7 = .int .i64 13 := hs 7 (by decide) (by decide)
  have s_8 : IsTm u AnyB (v 8) (indT (⟨#[102, 111, 111]⟩ : ByteArray) 0) := hs 8 (by decide) (by decide)
  have s_9 : NewVar W0.heap.size #[.int .i64 0, .int .i64 0, .string ⟨#[]⟩, .slice none 0 0] 30 (v 9) u := hs 9 (by decide) (by decide)
  have s_10 : v 10 = _ := hs 10 (by decide) (by decide)
  have s_11 : v 11 = _ := hs 11 (by decide) (by decide)
  simp only [putAll, dstOf]
  replace HR1 := Lib.hid (row_on HR1.out hu)
  replace HB := Lib.hid (HB.out.trans (hu.mono HB.out.size))
  obtain ⟨b9, e9, nb9, nh9⟩ := s_9
  obtain ⟨a8, c8, e8⟩ := s_8.form
  rw [e8] at s_8
  have HI := Lib.hid (s_8.avoid nh9 rfl)
  have hg1 := Nat.lt_of_lt_of_le (Array.getElem?_eq_some_iff.1 HR1.out).1 (Nat.le_refl _)
  have hn1 : w.heap.size ≠ b9 := by intro e; rw [← e] at nh9; rw [HR1.out] at nh9; cases nh9
  have HN9 := Lib.hid nh9
  clear s_8 s_2 s_3 s_4 nh9
  refine rest_lineL 12 13 [_] rfl (by kernel_rfl) (by decide) (by decide) (by kernel_rfl) ?_
  simp only [Act.put, List.getElem?_toArray, List.getElem?_cons_succ, List.getElem?_cons_zero, Option.bind_some, List.setIfInBounds_toArray, List.set_cons_succ, List.set_cons_zero, Nat.reduceAdd, s_0, s_1, s_6, s_7, e8, e9, s_10, s_11]
  go_wp2_with (first
    | (with_reducible show wpList _ _ _ (⟨none, .store _ (.tmp 7) _, _, _, _, _⟩ :: _) _ _
       refine wpList_store_row rfl 30 (.tmp 7) (.tmp 35) rfl b9 #[.int .i64 (indT (⟨#[102, 111, 111]⟩ : ByteArray) 0).k, .int .i64 (indT (⟨#[102, 111, 111]⟩ : ByteArray) 0).n, .string (indT (⟨#[102, 111, 111]⟩ : ByteArray) 0).s, .slice a8 (indT (⟨#[102, 111, 111]⟩ : ByteArray) 0).args.length c8] rfl rfl _ _ HN9.out size_term rfl (one4 _ _ _ _ _ _) ?_))
  refine then_rest (rest_end (by decide) ?_)
  have HW := Lib.hid (setRow_heap u b9 _ (#[.int .i64 (indT (⟨#[102, 111, 111]⟩ : ByteArray) 0).k, .int .i64 (indT (⟨#[102, 111, 111]⟩ : ByteArray) 0).n, .string (indT (⟨#[102, 111, 111]⟩ : ByteArray) 0).s, .slice a8 (indT (⟨#[102, 111, 111]⟩ : ByteArray) 0).args.length c8] : Array Value) _ _ HN9.out)
  replace HR1 := Lib.hid ((setRow_other u b9 w.heap.size (#[.int .i64 (indT (⟨#[102, 111, 111]⟩ : ByteArray) 0).k, .int .i64 (indT (⟨#[102, 111, 111]⟩ : ByteArray) 0).n, .string (indT (⟨#[102, 111, 111]⟩ : ByteArray) 0).s, .slice a8 (indT (⟨#[102, 111, 111]⟩ : ByteArray) 0).args.length c8] : Array Value) hn1).trans HR1.out)
  replace HB := Lib.hid (show Below w.heap.size w (u.setRow b9 (#[.int .i64 (indT (⟨#[102, 111, 111]⟩ : ByteArray) 0).k, .int .i64 (indT (⟨#[102, 111, 111]⟩ : ByteArray) 0).n, .string (indT (⟨#[102, 111, 111]⟩ : ByteArray) 0).s, .slice a8 (indT (⟨#[102, 111, 111]⟩ : ByteArray) 0).args.length c8] : Array Value)) from HB.out.trans ⟨rfl, rfl, rfl, by simp, fun k hk => setRow_other _ _ _ _ (by omega)⟩)
  replace HI := Lib.hid (HI.out.imp (w' := u.setRow b9 (#[.int .i64 (indT (⟨#[102, 111, 111]⟩ : ByteArray) 0).k, .int .i64 (indT (⟨#[102, 111, 111]⟩ : ByteArray) 0).n, .string (indT (⟨#[102, 111, 111]⟩ : ByteArray) 0).s, .slice a8 (indT (⟨#[102, 111, 111]⟩ : ByteArray) 0).args.length c8] : Array Value)) (fun _ _ => (trivial : AnyB _)) fun b h _ => setRow_other _ _ _ _ h.2)
  clear HN9
  generalize u.setRow b9 (#[.int .i64 (indT (⟨#[102, 111, 111]⟩ : ByteArray) 0).k, .int .i64 (indT (⟨#[102, 111, 111]⟩ : ByteArray) 0).n, .string (indT (⟨#[102, 111, 111]⟩ : ByteArray) 0).s, .slice a8 (indT (⟨#[102, 111, 111]⟩ : ByteArray) 0).args.length c8] : Array Value) = U0 at *
  go_wp2_with fail
  refine (l12_i 1 _).mono ?_
  rintro eU10 U10 ⟨rfl, hbq⟩
  replace HR1 := Lib.hid (row_on HR1.out hbq)
  replace HW := Lib.hid (row_on HW.out hbq)
  replace HI := Lib.hid (HI.out.below hbq)
  replace HB := Lib.hid (HB.out.trans (hbq.mono HB.out.size))
  clear hbq
  go_wp2_with fail
  refine (l12_i 0 _).mono ?_
  rintro eU11 U11 ⟨rfl, hbq⟩
  replace HR1 := Lib.hid (row_on HR1.out hbq)
  replace HW := Lib.hid (row_on HW.out hbq)
  replace HI := Lib.hid (HI.out.below hbq)
  replace HB := Lib.hid (HB.out.trans (hbq.mono HB.out.size))
  clear hbq
  go_wp2_with fail
  have hs2 := row2 (w := U11) (x := (intT 1)) (y := (intT 0)) (int_is _ _ _) (int_is _ _ _)
  have hbq := below_new U11 (.cells #[.int .i64 2, .int .i64 1, .string ⟨#[]⟩, .slice none 0 0, .int .i64 2, .int .i64 0, .string ⟨#[]⟩, .slice none 0 0] 30 (0, 0))
  replace HR1 := Lib.hid (row_on HR1.out hbq)
  replace HW := Lib.hid (row_on HW.out hbq)
  replace HI := Lib.hid (HI.out.below hbq)
  replace HB := Lib.hid (HB.out.trans (hbq.mono HB.out.size))
  have HS : Hid (IsSl (U11.alloc (.cells #[.int .i64 2, .int .i64 1, .string ⟨#[]⟩, .slice none 0 0, .int .i64 2, .int .i64 0, .string ⟨#[]⟩, .slice none 0 0] 30 (0, 0))) AnyB (.slice (some ⟨U11.heap.size, 0, none⟩) 2 2) [(intT 1), (intT 0)]) := Lib.hid hs2
  clear hs2 hbq
  generalize U11.alloc (.cells #[.int .i64 2, .int .i64 1, .string ⟨#[]⟩, .slice none 0 0, .int .i64 2, .int .i64 0, .string ⟨#[]⟩, .slice none 0 0] 30 (0, 0)) = U12 at *
  refine (l12_fs (⟨#[47, 47]⟩ : ByteArray) _ _ _ HS.out).mono ?_
  rintro eU13 U13 ⟨vU13, rfl, hiq, hbq⟩
  replace HR1 := Lib.hid (row_on HR1.out hbq)
  replace HW := Lib.hid (row_on HW.out hbq)
  replace HI := Lib.hid (HI.out.below hbq)
  replace HS := Lib.hid (HS.out.below hbq)
  replace HB := Lib.hid (HB.out.trans (hbq.mono HB.out.size))
  have H1 := Lib.hid hiq
  clear hiq hbq
  obtain ⟨aH1, cH1, rfl⟩ := H1.out.form
  clear HS
  go_wp2_with fail
  refine (go_EvalA x12c _ _ (by decide) fx_c H1.out).mono ?_
  rintro eU14 U14 ⟨vU14, rfl, hiq, hbq⟩
  replace HR1 := Lib.hid (row_on HR1.out hbq)
  replace HW := Lib.hid (row_on HW.out hbq)
  replace HI := Lib.hid (HI.out.below hbq)
  replace H1 := Lib.hid (H1.out.below hbq)
  replace HB := Lib.hid (HB.out.trans (hbq.mono HB.out.size))
  rw [ev_c] at hiq
  obtain ⟨qH2, rfl, hiq⟩ := hiq
  simp only at hiq ⊢
  have H2 := Lib.hid hiq
  clear hiq hbq
  obtain ⟨aH2, cH2, rfl⟩ := H2.out.form
  clear H1
  go_upto_region 5 with fail
  have hbq := below_new U14 (.cells #[.int .i64 zT.k, .int .i64 zT.n, .string zT.s, .slice aH2 zT.args.length cH2] 30 (0, 0))
  have hq := heap_alloc_new U14 (.cells #[.int .i64 zT.k, .int .i64 zT.n, .string zT.s, .slice aH2 zT.args.length cH2] 30 (0, 0))
  have hzq : U14.heap.size < (U14.alloc (.cells #[.int .i64 zT.k, .int .i64 zT.n, .string zT.s, .slice aH2 zT.args.length cH2] 30 (0, 0))).heap.size := by simp
  replace HR1 := Lib.hid (row_on HR1.out hbq)
  replace HW := Lib.hid (row_on HW.out hbq)
  replace HI := Lib.hid (HI.out.below hbq)
  replace H2 := Lib.hid (H2.out.below hbq)
  replace HB := Lib.hid (HB.out.trans (hbq.mono HB.out.size))
  clear hbq hq
  generalize U14.alloc (.cells #[.int .i64 zT.k, .int .i64 zT.n, .string zT.s, .slice aH2 zT.args.length cH2] 30 (0, 0)) = U15 at *
  clear H2
  obtain ⟨x0, x1, x2, x3⟩ := row4 HR1.out
  go_wp2_with fail
  clear x0 x1 x2 x3
  have hs2 := row2 (w := U15) (x := (varT 0)) (y := (atomT (⟨#[102, 111, 111]⟩ : ByteArray))) (var_is _ _ _) (atom_is _ _ _)
  have hbq := below_new U15 (.cells #[.int .i64 1, .int .i64 0, .string ⟨#[]⟩, .slice none 0 0, .int .i64 3, .int .i64 0, .string (⟨#[102, 111, 111]⟩ : ByteArray), .slice none 0 0] 30 (0, 0))
  replace HR1 := Lib.hid (row_on HR1.out hbq)
  replace HW := Lib.hid (row_on HW.out hbq)
  replace HI := Lib.hid (HI.out.below hbq)
  replace HB := Lib.hid (HB.out.trans (hbq.mono HB.out.size))
  have HS : Hid (IsSl (U15.alloc (.cells #[.int .i64 1, .int .i64 0, .string ⟨#[]⟩, .slice none 0 0, .int .i64 3, .int .i64 0, .string (⟨#[102, 111, 111]⟩ : ByteArray), .slice none 0 0] 30 (0, 0))) AnyB (.slice (some ⟨U15.heap.size, 0, none⟩) 2 2) [(varT 0), (atomT (⟨#[102, 111, 111]⟩ : ByteArray))]) := Lib.hid hs2
  clear hs2 hbq
  generalize U15.alloc (.cells #[.int .i64 1, .int .i64 0, .string ⟨#[]⟩, .slice none 0 0, .int .i64 3, .int .i64 0, .string (⟨#[102, 111, 111]⟩ : ByteArray), .slice none 0 0] 30 (0, 0)) = U16 at *
  refine (l12_fs (⟨#[43]⟩ : ByteArray) _ _ _ HS.out).mono ?_
  rintro eU17 U17 ⟨vU17, rfl, hiq, hbq⟩
  replace HR1 := Lib.hid (row_on HR1.out hbq)
  replace HW := Lib.hid (row_on HW.out hbq)
  replace HI := Lib.hid (HI.out.below hbq)
  replace HS := Lib.hid (HS.out.below hbq)
  replace HB := Lib.hid (HB.out.trans (hbq.mono HB.out.size))
  have H1 := Lib.hid hiq
  clear hiq hbq
  obtain ⟨aH1, cH1, rfl⟩ := H1.out.form
  clear HS
  go_wp2_with fail
  refine (go_EvalA x12d _ _ (by decide) fx_d H1.out).mono ?_
  rintro eU18 U18 ⟨vU18, rfl, hiq, hbq⟩
  replace HR1 := Lib.hid (row_on HR1.out hbq)
  replace HW := Lib.hid (row_on HW.out hbq)
  replace HI := Lib.hid (HI.out.below hbq)
  replace H1 := Lib.hid (H1.out.below hbq)
  replace HB := Lib.hid (HB.out.trans (hbq.mono HB.out.size))
  rw [ev_d] at hiq
  obtain ⟨qH2, rfl, hiq⟩ := hiq
  simp only at hiq ⊢
  have H2 := Lib.hid hiq
  clear hiq hbq
  obtain ⟨aH2, cH2, rfl⟩ := H2.out.form
  clear H1
  go_upto_region 6 with fail
  have hbq := below_new U18 (.cells #[.int .i64 zT.k, .int .i64 zT.n, .string zT.s, .slice aH2 zT.args.length cH2] 30 (0, 0))
  have hq := heap_alloc_new U18 (.cells #[.int .i64 zT.k, .int .i64 zT.n, .string zT.s, .slice aH2 zT.args.length cH2] 30 (0, 0))
  have hzq : U18.heap.size < (U18.alloc (.cells #[.int .i64 zT.k, .int .i64 zT.n, .string zT.s, .slice aH2 zT.args.length cH2] 30 (0, 0))).heap.size := by simp
  replace HR1 := Lib.hid (row_on HR1.out hbq)
  replace HW := Lib.hid (row_on HW.out hbq)
  replace HI := Lib.hid (HI.out.below hbq)
  replace H2 := Lib.hid (H2.out.below hbq)
  replace HB := Lib.hid (HB.out.trans (hbq.mono HB.out.size))
  clear hbq hq
  generalize U18.alloc (.cells #[.int .i64 zT.k, .int .i64 zT.n, .string zT.s, .slice aH2 zT.args.length cH2] 30 (0, 0)) = U19 at *
  clear H2
  have hat := HI.out.args.at 0 (by decide)
  obtain ⟨b0, o0, rfl, -, hta⟩ := hat
  obtain ⟨ax, cx, y0, y1, y2, y3, -, -⟩ := hta.read
  simp only [Nat.zero_mul, Nat.add_zero] at y0 y1 y2 y3
  have z2 : U19.cell? ⟨b0, o0 + 2, none⟩ = some (.string (⟨#[102, 111, 111]⟩ : ByteArray)) := y2
  clear y0 y1 y2 y3
  have HW2 : Hid (U19.heap[b9]? = some (.cells #[.int .i64 4, .int .i64 0, .string (⟨#[47]⟩ : ByteArray), .slice (some ⟨b0, o0, none⟩) 2 c8] 30 (0, 0))) := Lib.hid HW.out
  obtain ⟨x0, x1, x2, x3⟩ := row4 HW2.out
  go_wp2
  go_ret
  exact ⟨rfl, HB.out⟩
end Go.Proofs.Ytibjcfbilkkmkaa.Tms
