
/-
  Layer 12: ArithEvals, walked over the program (printed by gen_ari.py).
-/
import Derived.Test.YtibjcfbilkkmkaaArh
import Derived.Test.YtibjcfbilkkmkaaLow
namespace Go.Proofs.Ytibjcfbilkkmkaa.Tms
open Go Go.RowKit Go.Proofs.Ytibjcfbilkkmkaa.Reg Go.Proofs.Ytibjcfbilkkmkaa.Maps Go.Proofs.Ytibjcfbilkkmkaa.Num
set_option linter.unusedVariables false
set_option linter.unusedSimpArgs false

/-- a result of Holds -/
def HdV (u : World) (v : Value) (r : Bool × Int × Tm) : Prop := ∃ v', v = .tuple #[.bool r.1, .int .i64 r.2.1, v'] ∧ IsTm u AnyB v' r.2.2
theorem HdV.below {u u' : World} {v : Value} {r : Bool × Int × Tm} (h : HdV u v r) (hb : Below u.heap.size u u') : HdV u' v r := by
  obtain ⟨v', e, h⟩ := h
  exact ⟨v', e, h.below hb⟩
theorem go_HoldsA (op : ByteArray) (x y : Tm) (vx vy : Value) (w : World) (hMx : x.size ≤ 1000000000) (hMy : y.size ≤ 1000000000) (hfx : fitT x) (hfy : fitT y) (hx : IsTm w AnyB vx x) (hy : IsTm w AnyB vy y) :
    Calls Try.prog 22 #[.string op, vx, vy] w fun e w' => ∃ v', e = .returned v' ∧ HdV w' v' (holdsT op x y) ∧ Below w.heap.size w w' :=
  (go_Holds op x y vx vy _ _ w hMx hMy hfx hfy hx hy).mono fun e w' ⟨v', he, hi, hb⟩ => ⟨_, he, ⟨v', rfl, hi.any⟩, hb⟩
theorem ref_HoldsA (op : ByteArray) (x y : Tm) (vx vy : Value) (w : World) (hMx : x.size ≤ 1000000000) (hMy : y.size ≤ 1000000000) (hfx : fitT x) (hfy : fitT y) (hx : IsTm w AnyB vx x) (hy : IsTm w AnyB vy y) :
    Calls Try.prog 23 #[.string op, vx, vy] w fun e w' => ∃ v', e = .returned v' ∧ HdV w' v' (holdsT op x y) ∧ Below w.heap.size w w' :=
  (ref_Holds op x y vx vy _ _ w hMx hMy hfx hfy hx hy).mono fun e w' ⟨v', he, hi, hb⟩ => ⟨_, he, ⟨v', rfl, hi.any⟩, hb⟩
theorem ref_EvalA (t : Tm) (v : Value) (w : World) (hM : t.size ≤ 1000000000) (hf : fitT t) (h : IsTm w AnyB v t) : Calls Try.prog 21 #[v] w fun e w' => ∃ v', e = .returned v' ∧ EvV w' v' (evalT t) ∧ Below w.heap.size w w' :=
  (ref_Eval t v _ w hM hf h).mono fun e w' ⟨v', he, hi, hb⟩ => ⟨_, he, ⟨v', rfl, hi.any⟩, hb⟩
theorem ref_mendA (t : Tm) (v : Value) (w : World) (hM : t.size ≤ 1000000000) (h : IsTm w AnyB v t) : Calls Try.prog 10 #[v] w (fun e w' => ∃ v', e = .returned v' ∧ IsTm w' AnyB v' (mendT t) ∧ Below w.heap.size w w') :=
  (ref_mend _ t v _ w (Nat.le_refl _) hM h).mono fun e w' ⟨v', he, hi, hb⟩ => ⟨v', he, hi.any, hb⟩
theorem holds_tsize (op : ByteArray) (x y : Tm) : (holdsT op x y).2.2.size ≤ 3 := by
  unfold holdsT
  split
  · exact (by decide : zT.size ≤ 3)
  · split
    · exact eval_tsize x
    · split
      · exact eval_tsize y
      · exact (by decide : zT.size ≤ 3)
mutual
theorem ev_tok : ∀ t : Tm, (evT t).2.2.ok = true ∨ (evT t).2.2.args = []
  | .mk k n s a => by
    have hl := evL_tok a
    have hz : zT.ok = true ∨ zT.args = [] := .inr rfl
    by_cases k1 : k = 1
    · subst k1; rw [ev_var]; exact hz
    by_cases k2 : k = 2
    · subst k2; rw [ev_int]; exact hz
    cases hk : knB s a.length with
    | false => rw [ev_no k1 k2 hk]; exact .inl (by simp [indT, compT, atomT, intT, Tm.ok, okL])
    | true =>
      by_cases he : (evL a).2.1 = 0
      · rw [ev_op k1 k2 hk he]; exact hz
      · rw [ev_bad k1 k2 hk he]; exact hl
theorem evL_tok : ∀ l : List Tm, (evL l).2.2.ok = true ∨ (evL l).2.2.args = []
  | [] => by rw [evL_nil]; exact .inr rfl
  | t :: ts => by
    have h1 := ev_tok t
    have h2 := evL_tok ts
    by_cases ht : (evT t).2.1 = 0
    · rw [evL_ok ht]; exact h2
    · rw [evL_bad ht]; exact h1
end
theorem eval_tok (t : Tm) : (evalT t).2.2.ok = true ∨ (evalT t).2.2.args = [] := by unfold evalT; split; exact .inr rfl; exact ev_tok t
theorem holds_tok (op : ByteArray) (x y : Tm) : (holdsT op x y).2.2.ok = true ∨ (holdsT op x y).2.2.args = [] := by
  unfold holdsT
  split
  · exact .inr rfl
  · split
    · exact eval_tok x
    · split
      · exact eval_tok y
      · exact .inr rfl
/-- an array of four terms -/
def Arr4 (u : World) (v : Value) (a b c d : Tm) : Prop := ∃ (q0 q1 q2 q3 : Option Addr) (c0 c1 c2 c3 : Nat), v = .agg #[.int .i64 a.k, .int .i64 a.n, .string a.s, .slice q0 a.args.length c0, .int .i64 b.k, .int .i64 b.n, .string b.s, .slice q1 b.args.length c1, .int .i64 c.k, .int .i64 c.n, .string c.s, .slice q2 c.args.length c2, .int .i64 d.k, .int .i64 d.n, .string d.s, .slice q3 d.args.length c3] ∧ IsTm u AnyB (.agg #[.int .i64 a.k, .int .i64 a.n, .string a.s, .slice q0 a.args.length c0]) a ∧ IsTm u AnyB (.agg #[.int .i64 b.k, .int .i64 b.n, .string b.s, .slice q1 b.args.length c1]) b ∧ IsTm u AnyB (.agg #[.int .i64 c.k, .int .i64 c.n, .string c.s, .slice q2 c.args.length c2]) c ∧ IsTm u AnyB (.agg #[.int .i64 d.k, .int .i64 d.n, .string d.s, .slice q3 d.args.length c3]) d
theorem Arr4.below {u u' : World} {v : Value} {a b c d : Tm} (h : Arr4 u v a b c d) (hb : Below u.heap.size u u') : Arr4 u' v a b c d := by
  obtain ⟨q0, q1, q2, q3, c0, c1, c2, c3, e, h0, h1, h2, h3⟩ := h
  exact ⟨q0, q1, q2, q3, c0, c1, c2, c3, e, h0.below hb, h1.below hb, h2.below hb, h3.below hb⟩
theorem ix4_0 (x0 x1 x2 x3 x4 x5 x6 x7 x8 x9 x10 x11 x12 x13 x14 x15 : Value) (w : World) : (Instr.index 56 (.agg #[x0, x1, x2, x3, x4, x5, x6, x7, x8, x9, x10, x11, x12, x13, x14, x15]) (.int .i64 0)).run Try.prog w = .ok (.agg #[x0, x1, x2, x3]) w := by kernel_rfl
theorem ix4_1 (x0 x1 x2 x3 x4 x5 x6 x7 x8 x9 x10 x11 x12 x13 x14 x15 : Value) (w : World) : (Instr.index 56 (.agg #[x0, x1, x2, x3, x4, x5, x6, x7, x8, x9, x10, x11, x12, x13, x14, x15]) (.int .i64 1)).run Try.prog w = .ok (.agg #[x4, x5, x6, x7]) w := by kernel_rfl
theorem ix4_2 (x0 x1 x2 x3 x4 x5 x6 x7 x8 x9 x10 x11 x12 x13 x14 x15 : Value) (w : World) : (Instr.index 56 (.agg #[x0, x1, x2, x3, x4, x5, x6, x7, x8, x9, x10, x11, x12, x13, x14, x15]) (.int .i64 2)).run Try.prog w = .ok (.agg #[x8, x9, x10, x11]) w := by kernel_rfl
theorem ix4_3 (x0 x1 x2 x3 x4 x5 x6 x7 x8 x9 x10 x11 x12 x13 x14 x15 : Value) (w : World) : (Instr.index 56 (.agg #[x0, x1, x2, x3, x4, x5, x6, x7, x8, x9, x10, x11, x12, x13, x14, x15]) (.int .i64 3)).run Try.prog w = .ok (.agg #[x12, x13, x14, x15]) w := by kernel_rfl
set_option maxRecDepth 100000 in
set_option maxHeartbeats 4000000 in
theorem law_evals (op : ByteArray) (L M : List Pt) (v1 v2 : Value) (w : World) (h1 : PtSl w v1 L) (h2 : PtSl w v2 M) (f1 : ∀ p ∈ L, Fit p.n) (f2 : ∀ p ∈ M, Fit p.n) : Calls Try.prog 5 #[v1, v2, .string op] w (Says true w) := by
  obtain ⟨a1, c1, rfl, hc1, hm1⟩ := h1.form
  obtain ⟨a2, c2, rfl, hc2, hm2⟩ := h2.form
  have H1 := Lib.hid h1
  have H2 := Lib.hid h2
  have FA := ofN_fit L.length L f1
  have FB := ofN_fit M.length M f2
  clear h1 h2 f1 f2
  by_cases g1 : 60 < L.length
  · have d1 : decide (60 < (L.length : Int)) = true := by simp; omega
    go_enter Try.func5, Try.ntmps5
    go_wp2_with (first
      | (go_at_call 19; refine (l12_alive _).mono ?_; rintro e1 w1 ⟨rfl, hb1⟩; have HB := Lib.hid hb1; clear hb1)
      | (go_at_call 8; refine (ref_great L _ _ (H1.out.below HB.out)).mono ?_; rintro e2 w2 ⟨rfl, rfl⟩))
    go_ret
    exact ⟨rfl, HB.out⟩
  have d1 : decide (60 < (L.length : Int)) = false := by simp; omega
  by_cases g2 : 60 < M.length
  · have d2 : decide (60 < (M.length : Int)) = true := by simp; omega
    go_enter Try.func5, Try.ntmps5
    go_wp2_with fail
    refine (l12_alive _).mono ?_; rintro e1 w1 ⟨rfl, hb1⟩; have HB := Lib.hid hb1; clear hb1
    go_wp2_with fail
    refine (ref_great L _ _ (H1.out.below HB.out)).mono ?_; rintro e2 w2 ⟨rfl, rfl⟩
    go_wp2_with fail
    refine (ref_great M _ _ (H2.out.below HB.out)).mono ?_; rintro e2 w2 ⟨rfl, rfl⟩
    go_wp2
    go_ret
    exact ⟨rfl, HB.out⟩
  have d2 : decide (60 < (M.length : Int)) = false := by simp; omega
  have SA := ofN_small L.length L
  have SB := ofN_small M.length M
  replace SA : (ofN L.length L).1.size ≤ 900 := by omega
  replace SB : (ofN M.length M).1.size ≤ 900 := by omega
  go_enter Try.func5, Try.ntmps5
  go_wp2_with fail
  refine (l12_alive _).mono ?_; rintro e1 w1 ⟨rfl, hb1⟩; have HB := Lib.hid hb1; clear hb1
  go_wp2_with fail
  refine (ref_great L _ _ (H1.out.below HB.out)).mono ?_; rintro e2 w2 ⟨rfl, rfl⟩
  go_wp2_with fail
  refine (ref_great M _ _ (H2.out.below HB.out)).mono ?_; rintro e2 w2 ⟨rfl, rfl⟩
  go_wp2_with fail
  refine (ref_of L.length L _ _ (Nat.le_refl _) (by omega) (H1.out.below HB.out)).mono ?_
  rintro e3 w3 ⟨v3, rfl, hi3, hb3⟩
  replace HB := Lib.hid (HB.out.trans (hb3.mono HB.out.size))
  have HA := Lib.hid hi3.any
  clear hi3 hb3 H1
  generalize (ofN L.length L).1 = A at *
  obtain ⟨aA, cA, rfl⟩ := HA.out.form
  go_upto_region 6 with fail
  have hbq := below_new w3 (.cells #[.int .i64 A.k, .int .i64 A.n, .string A.s, .slice aA A.args.length cA] 30 (0, 0))
  have hq := heap_alloc_new w3 (.cells #[.int .i64 A.k, .int .i64 A.n, .string A.s, .slice aA A.args.length cA] 30 (0, 0))
  have hzq : w3.heap.size < (w3.alloc (.cells #[.int .i64 A.k, .int .i64 A.n, .string A.s, .slice aA A.args.length cA] 30 (0, 0))).heap.size := by simp
  replace HA := Lib.hid (HA.out.below hbq)
  replace HB := Lib.hid (HB.out.trans (hbq.mono HB.out.size))
  have HR1 := Lib.hid hq
  clear hbq hq
  generalize w3.alloc (.cells #[.int .i64 A.k, .int .i64 A.n, .string A.s, .slice aA A.args.length cA] 30 (0, 0)) = W3 at *
  go_wp2_with fail
  refine (ref_of M.length M _ _ (Nat.le_refl _) (by omega) (H2.out.below HB.out)).mono ?_
  rintro e4 w4 ⟨v4, rfl, hi4, hb4⟩
  replace HR1 := Lib.hid (row_on HR1.out hb4)
  replace HA := Lib.hid (HA.out.below hb4)
  replace HB := Lib.hid (HB.out.trans (hb4.mono HB.out.size))
  have HC := Lib.hid hi4.any
  clear hi4 hb4 H2
  generalize (ofN M.length M).1 = B at *
  obtain ⟨aC, cC, rfl⟩ := HC.out.form
  go_upto_region 7 with fail
  have hbq := below_new w4 (.cells #[.int .i64 B.k, .int .i64 B.n, .string B.s, .slice aC B.args.length cC] 30 (0, 0))
  have hq := heap_alloc_new w4 (.cells #[.int .i64 B.k, .int .i64 B.n, .string B.s, .slice aC B.args.length cC] 30 (0, 0))
  have hzq : w4.heap.size < (w4.alloc (.cells #[.int .i64 B.k, .int .i64 B.n, .string B.s, .slice aC B.args.length cC] 30 (0, 0))).heap.size := by simp
  replace HR1 := Lib.hid (row_on HR1.out hbq)
  replace HA := Lib.hid (HA.out.below hbq)
  replace HC := Lib.hid (HC.out.below hbq)
  replace HB := Lib.hid (HB.out.trans (hbq.mono HB.out.size))
  have HR2 := Lib.hid hq
  clear hbq hq
  generalize w4.alloc (.cells #[.int .i64 B.k, .int .i64 B.n, .string B.s, .slice aC B.args.length cC] 30 (0, 0)) = W4 at *
  have SMA := mendT_size A
  have SMB := mendT_size B
  have FMA := mend_fit A FA
  have FMB := mend_fit B FB
  have HFA := Lib.hid FA
  have HFB := Lib.hid FB
  have HFMA := Lib.hid FMA
  have HFMB := Lib.hid FMB
  clear FA FB FMA FMB
  refine wp_region_rest (by kernel_rfl) ?_
  have hd := (Below.refl W4.heap.size W4).drew
  replace HR1 := Lib.hid (row_on HR1.out hd)
  replace HR2 := Lib.hid (row_on HR2.out hd)
  replace HA := Lib.hid (HA.out.below hd)
  replace HC := Lib.hid (HC.out.below hd)
  replace HB := Lib.hid (HB.out.trans (hd.mono HB.out.size))
  clear hd
  generalize W4.drew = W0 at *
  refine rest_opsL 0 8 113 [_, _, _, _, _, _, _, _] (pk 0 [isV ((.agg #[.int .i64 A.k, .int .i64 A.n, .string A.s, .slice aA A.args.length cA])), isV ((.agg #[.int .i64 B.k, .int .i64 B.n, .string B.s, .slice aC B.args.length cC])), isV ((.agg #[.int .i64 A.k, .int .i64 A.n, .string A.s, .slice aA A.args.length cA])), fun v u => IsTm u AnyB v (mendT A), isV ((.agg #[.int .i64 B.k, .int .i64 B.n, .string B.s, .slice aC B.args.length cC])), fun v u => IsTm u AnyB v (mendT B), fun v u => Arr4 u v A B (mendT A) (mendT B), isV ?a1_7]) (fun _ _ => none) rfl (by kernel_rfl) (by kernel_rfl) rfl (.inl rfl) ?hS1 ?hop1 ?_
  case hop1 =>
    refine hops_cons ?_ ?_
    · intro v u hu hs Q' hQ
      simp only [putAll, dstOf]
      obtain ⟨f0, f1, f2, f3⟩ := row4 (row_on HR1.out hu)
      obtain ⟨h0, h1, h2, h3⟩ := row4 (row_on HR2.out hu)
      clear hs
      go_wp2
      exact ⟨rfl, Below.refl _ _, by (show _ = _; rfl), fun _ h => nomatch h⟩
    refine hops_cons ?_ ?_
    · intro v u hu hs Q' hQ
      simp only [putAll, dstOf]
      obtain ⟨f0, f1, f2, f3⟩ := row4 (row_on HR1.out hu)
      obtain ⟨h0, h1, h2, h3⟩ := row4 (row_on HR2.out hu)
      clear hs
      go_wp2
      exact ⟨rfl, Below.refl _ _, by (show _ = _; rfl), fun _ h => nomatch h⟩
    refine hops_cons ?_ ?_
    · intro v u hu hs Q' hQ
      simp only [putAll, dstOf]
      obtain ⟨f0, f1, f2, f3⟩ := row4 (row_on HR1.out hu)
      obtain ⟨h0, h1, h2, h3⟩ := row4 (row_on HR2.out hu)
      clear hs
      go_wp2
      exact ⟨rfl, Below.refl _ _, by (show _ = _; rfl), fun _ h => nomatch h⟩
    refine hops_cons ?_ ?_
    · intro v u hu hs Q' hQ
      simp only [putAll, dstOf]
      have s_2 : v 2 = (.agg #[.int .i64 A.k, .int .i64 A.n, .string A.s, .slice aA A.args.length cA]) := hs 2 (by kernel_rfl) (by decide) (by decide)
      obtain ⟨f0, f1, f2, f3⟩ := row4 (row_on HR1.out hu)
      obtain ⟨h0, h1, h2, h3⟩ := row4 (row_on HR2.out hu)
      clear hs
      go_wp2_with (go_at_call 10; refine (ref_mendA A _ _ (by omega) (HA.out.below hu)).mono ?_; rintro e1 w1 ⟨v1, rfl, hi1, hb1⟩)
      exact ⟨rfl, hb1, hi1, fun _ h => nomatch h⟩
    refine hops_cons ?_ ?_
    · intro v u hu hs Q' hQ
      simp only [putAll, dstOf]
      obtain ⟨f0, f1, f2, f3⟩ := row4 (row_on HR1.out hu)
      obtain ⟨h0, h1, h2, h3⟩ := row4 (row_on HR2.out hu)
      clear hs
      go_wp2
      exact ⟨rfl, Below.refl _ _, by (show _ = _; rfl), fun _ h => nomatch h⟩
    refine hops_cons ?_ ?_
    · intro v u hu hs Q' hQ
      simp only [putAll, dstOf]
      have s_3 : IsTm u AnyB (v 3) (mendT A) := hs 3 (by kernel_rfl) (by decide) (by decide)
      have s_4 : v 4 = (.agg #[.int .i64 B.k, .int .i64 B.n, .string B.s, .slice aC B.args.length cC]) := hs 4 (by kernel_rfl) (by decide) (by decide)
      obtain ⟨f0, f1, f2, f3⟩ := row4 (row_on HR1.out hu)
      obtain ⟨h0, h1, h2, h3⟩ := row4 (row_on HR2.out hu)
      clear hs
      go_wp2_with (go_at_call 10; refine (ref_mendA B _ _ (by omega) (HC.out.below hu)).mono ?_; rintro e1 w1 ⟨v1, rfl, hi1, hb1⟩)
      exact ⟨rfl, hb1, hi1, fun _ h => nomatch h⟩
    refine hops_cons ?_ ?_
    · intro v u hu hs Q' hQ
      simp only [putAll, dstOf]
      have s_0 : v 0 = (.agg #[.int .i64 A.k, .int .i64 A.n, .string A.s, .slice aA A.args.length cA]) := hs 0 (by kernel_rfl) (by decide) (by decide)
      have s_1 : v 1 = (.agg #[.int .i64 B.k, .int .i64 B.n, .string B.s, .slice aC B.args.length cC]) := hs 1 (by kernel_rfl) (by decide) (by decide)
      have s_3 : IsTm u AnyB (v 3) (mendT A) := hs 3 (by kernel_rfl) (by decide) (by decide)
      have s_5 : IsTm u AnyB (v 5) (mendT B) := hs 5 (by kernel_rfl) (by decide) (by decide)
      obtain ⟨f0, f1, f2, f3⟩ := row4 (row_on HR1.out hu)
      obtain ⟨h0, h1, h2, h3⟩ := row4 (row_on HR2.out hu)
      clear hs
      (obtain ⟨a3, c3, e3⟩ := s_3.form; obtain ⟨a5, c5, e5⟩ := s_5.form; rw [e3] at s_3; rw [e5] at s_5; rw [e3, e5]; go_wp2)
      exact ⟨rfl, Below.refl _ _, ⟨aA, aC, a3, a5, cA, cC, c3, c5, rfl, HA.out.below hu, HC.out.below hu, s_3, s_5⟩, fun _ h => nomatch h⟩
    refine hops_cons ?_ ?_
    · intro v u hu hs Q' hQ
      simp only [putAll, dstOf]
      clear hs
      go_wp2
      exact ⟨rfl, Below.refl _ _, by (show _ = _; rfl), fun _ h => nomatch h⟩
    exact hops_nil
  case hS1 =>
    intro j v u u' hkj hjn h hb
    match j, hkj, hjn, h with
    | 0, _, _, h => exact h
    | 1, _, _, h => exact h
    | 2, _, _, h => exact h
    | 3, _, _, h => exact h.below hb
    | 4, _, _, h => exact h
    | 5, _, _, h => exact h.below hb
    | 6, _, _, h => exact h.below hb
    | 7, _, _, h => exact h
    | q + 8, _, hq, _ => exact absurd hq (by omega)
  intro v u hu hs hap
  have s_0 : v 0 = (.agg #[.int .i64 A.k, .int .i64 A.n, .string A.s, .slice aA A.args.length cA]) := hs 0 (by decide) (by decide)
  have s_1 : v 1 = (.agg #[.int .i64 B.k, .int .i64 B.n, .string B.s, .slice aC B.args.length cC]) := hs 1 (by decide) (by decide)
  have s_2 : v 2 = (.agg #[.int .i64 A.k, .int .i64 A.n, .string A.s, .slice aA A.args.length cA]) := hs 2 (by decide) (by decide)
  have s_3 : IsTm u AnyB (v 3) (mendT A) := hs 3 (by decide) (by decide)
  have s_4 : v 4 = (.agg #[.int .i64 B.k, .int .i64 B.n, .string B.s, .slice aC B.args.length cC]) := hs 4 (by decide) (by decide)
  have s_5 : IsTm u AnyB (v 5) (mendT B) := hs 5 (by decide) (by decide)
  have s_6 : Arr4 u (v 6) A B (mendT A) (mendT B) := hs 6 (by decide) (by decide)
  have s_7 : v 7 = _ := hs 7 (by decide) (by decide)
  simp only [putAll, dstOf]
  replace HR1 := Lib.hid (row_on HR1.out hu)
  replace HR2 := Lib.hid (row_on HR2.out hu)
  replace HA := Lib.hid (HA.out.below hu)
  replace HC := Lib.hid (HC.out.below hu)
  replace HB := Lib.hid (HB.out.trans (hu.mono HB.out.size))
  obtain ⟨ak0, ak1, ak2, ak3, ck0, ck1, ck2, ck3, e6, h0, h1, h2, h3⟩ := s_6
  have K0 := Lib.hid h0
  have K1 := Lib.hid h1
  have K2 := Lib.hid h2
  have K3 := Lib.hid h3
  clear h0 h1 h2 h3 s_3 s_5
  refine then_rest (rest_end (by decide) ?_)
  simp only [s_0, s_1, s_2, s_4, e6, s_7]
  go_wp2_with fail
  refine wp_loop_rounds 5 ?_
  have ix0 := ix4_0 (.int .i64 A.k) (.int .i64 A.n) (.string A.s) (.slice ak0 A.args.length ck0) (.int .i64 B.k) (.int .i64 B.n) (.string B.s) (.slice ak1 B.args.length ck1) (.int .i64 (mendT A).k) (.int .i64 (mendT A).n) (.string (mendT A).s) (.slice ak2 (mendT A).args.length ck2) (.int .i64 (mendT B).k) (.int .i64 (mendT B).n) (.string (mendT B).s) (.slice ak3 (mendT B).args.length ck3)
  have ix1 := ix4_1 (.int .i64 A.k) (.int .i64 A.n) (.string A.s) (.slice ak0 A.args.length ck0) (.int .i64 B.k) (.int .i64 B.n) (.string B.s) (.slice ak1 B.args.length ck1) (.int .i64 (mendT A).k) (.int .i64 (mendT A).n) (.string (mendT A).s) (.slice ak2 (mendT A).args.length ck2) (.int .i64 (mendT B).k) (.int .i64 (mendT B).n) (.string (mendT B).s) (.slice ak3 (mendT B).args.length ck3)
  have ix2 := ix4_2 (.int .i64 A.k) (.int .i64 A.n) (.string A.s) (.slice ak0 A.args.length ck0) (.int .i64 B.k) (.int .i64 B.n) (.string B.s) (.slice ak1 B.args.length ck1) (.int .i64 (mendT A).k) (.int .i64 (mendT A).n) (.string (mendT A).s) (.slice ak2 (mendT A).args.length ck2) (.int .i64 (mendT B).k) (.int .i64 (mendT B).n) (.string (mendT B).s) (.slice ak3 (mendT B).args.length ck3)
  have ix3 := ix4_3 (.int .i64 A.k) (.int .i64 A.n) (.string A.s) (.slice ak0 A.args.length ck0) (.int .i64 B.k) (.int .i64 B.n) (.string B.s) (.slice ak1 B.args.length ck1) (.int .i64 (mendT A).k) (.int .i64 (mendT A).n) (.string (mendT A).s) (.slice ak2 (mendT A).args.length ck2) (.int .i64 (mendT B).k) (.int .i64 (mendT B).n) (.string (mendT B).s) (.slice ak3 (mendT B).args.length ck3)
  rw [rounds_succ]
  have HX := K0
  go_upto_region 10 with fail
  have hbq := below_new u (.cells #[.int .i64 A.k, .int .i64 A.n, .string A.s, .slice ak0 A.args.length ck0] 30 (0, 0))
  have hq := heap_alloc_new u (.cells #[.int .i64 A.k, .int .i64 A.n, .string A.s, .slice ak0 A.args.length ck0] 30 (0, 0))
  have hzq : u.heap.size < (u.alloc (.cells #[.int .i64 A.k, .int .i64 A.n, .string A.s, .slice ak0 A.args.length ck0] 30 (0, 0))).heap.size := by simp
  replace HR1 := Lib.hid (row_on HR1.out hbq)
  replace HR2 := Lib.hid (row_on HR2.out hbq)
  replace HA := Lib.hid (HA.out.below hbq)
  replace HC := Lib.hid (HC.out.below hbq)
  replace K0 := Lib.hid (K0.out.below hbq)
  replace K1 := Lib.hid (K1.out.below hbq)
  replace K2 := Lib.hid (K2.out.below hbq)
  replace K3 := Lib.hid (K3.out.below hbq)
  replace HX := Lib.hid (HX.out.below hbq)
  replace HB := Lib.hid (HB.out.trans (hbq.mono HB.out.size))
  have HX1 := Lib.hid hq
  clear hbq hq
  generalize u.alloc (.cells #[.int .i64 A.k, .int .i64 A.n, .string A.s, .slice ak0 A.args.length ck0] 30 (0, 0)) = Wa0 at *
  obtain ⟨x0, x1, x2, x3⟩ := row4 HX1.out
  go_wp2_with fail
  clear x0 x1 x2 x3
  refine (go_EvalA A _ _ (by omega) HFA.out HX.out).mono ?_
  rintro ewb0 wb0 ⟨vwb0, rfl, hiq, hbq⟩
  replace HR1 := Lib.hid (row_on HR1.out hbq)
  replace HR2 := Lib.hid (row_on HR2.out hbq)
  replace HX1 := Lib.hid (row_on HX1.out hbq)
  replace HA := Lib.hid (HA.out.below hbq)
  replace HC := Lib.hid (HC.out.below hbq)
  replace K0 := Lib.hid (K0.out.below hbq)
  replace K1 := Lib.hid (K1.out.below hbq)
  replace K2 := Lib.hid (K2.out.below hbq)
  replace K3 := Lib.hid (K3.out.below hbq)
  replace HX := Lib.hid (HX.out.below hbq)
  replace HB := Lib.hid (HB.out.trans (hbq.mono HB.out.size))
  have hts := eval_tsize A
  generalize hev : evalT A = rA at hiq hts ⊢
  obtain ⟨qG1, rfl, hiq⟩ := hiq
  obtain ⟨nA, eA, tA⟩ := rA
  simp only at hiq ⊢
  have G1 := Lib.hid hiq
  clear hiq hbq
  obtain ⟨aG1, cG1, rfl⟩ := G1.out.form
  go_upto_region 11 with fail
  have hbq := below_new wb0 (.cells #[.int .i64 tA.k, .int .i64 tA.n, .string tA.s, .slice aG1 tA.args.length cG1] 30 (0, 0))
  have hq := heap_alloc_new wb0 (.cells #[.int .i64 tA.k, .int .i64 tA.n, .string tA.s, .slice aG1 tA.args.length cG1] 30 (0, 0))
  have hzq : wb0.heap.size < (wb0.alloc (.cells #[.int .i64 tA.k, .int .i64 tA.n, .string tA.s, .slice aG1 tA.args.length cG1] 30 (0, 0))).heap.size := by simp
  replace HR1 := Lib.hid (row_on HR1.out hbq)
  replace HR2 := Lib.hid (row_on HR2.out hbq)
  replace HX1 := Lib.hid (row_on HX1.out hbq)
  replace HA := Lib.hid (HA.out.below hbq)
  replace HC := Lib.hid (HC.out.below hbq)
  replace K0 := Lib.hid (K0.out.below hbq)
  replace K1 := Lib.hid (K1.out.below hbq)
  replace K2 := Lib.hid (K2.out.below hbq)
  replace K3 := Lib.hid (K3.out.below hbq)
  replace HX := Lib.hid (HX.out.below hbq)
  replace G1 := Lib.hid (G1.out.below hbq)
  replace HB := Lib.hid (HB.out.trans (hbq.mono HB.out.size))
  have HY1 := Lib.hid hq
  clear hbq hq
  generalize wb0.alloc (.cells #[.int .i64 tA.k, .int .i64 tA.n, .string tA.s, .slice aG1 tA.args.length cG1] 30 (0, 0)) = Wb0 at *
  obtain ⟨x0, x1, x2, x3⟩ := row4 HX1.out
  go_wp2_with fail
  clear x0 x1 x2 x3
  refine (ref_EvalA A _ _ (by omega) HFA.out HX.out).mono ?_
  rintro ewc0 wc0 ⟨vwc0, rfl, hiq, hbq⟩
  replace HR1 := Lib.hid (row_on HR1.out hbq)
  replace HR2 := Lib.hid (row_on HR2.out hbq)
  replace HX1 := Lib.hid (row_on HX1.out hbq)
  replace HY1 := Lib.hid (row_on HY1.out hbq)
  replace HA := Lib.hid (HA.out.below hbq)
  replace HC := Lib.hid (HC.out.below hbq)
  replace K0 := Lib.hid (K0.out.below hbq)
  replace K1 := Lib.hid (K1.out.below hbq)
  replace K2 := Lib.hid (K2.out.below hbq)
  replace K3 := Lib.hid (K3.out.below hbq)
  replace HX := Lib.hid (HX.out.below hbq)
  replace G1 := Lib.hid (G1.out.below hbq)
  replace HB := Lib.hid (HB.out.trans (hbq.mono HB.out.size))
  rw [hev] at hiq
  obtain ⟨qG2, rfl, hiq⟩ := hiq
  simp only at hiq ⊢
  have G2 := Lib.hid hiq
  clear hiq hbq
  obtain ⟨aG2, cG2, rfl⟩ := G2.out.form
  go_upto_region 12 with fail
  have hbq := below_new wc0 (.cells #[.int .i64 tA.k, .int .i64 tA.n, .string tA.s, .slice aG2 tA.args.length cG2] 30 (0, 0))
  have hq := heap_alloc_new wc0 (.cells #[.int .i64 tA.k, .int .i64 tA.n, .string tA.s, .slice aG2 tA.args.length cG2] 30 (0, 0))
  have hzq : wc0.heap.size < (wc0.alloc (.cells #[.int .i64 tA.k, .int .i64 tA.n, .string tA.s, .slice aG2 tA.args.length cG2] 30 (0, 0))).heap.size := by simp
  replace HR1 := Lib.hid (row_on HR1.out hbq)
  replace HR2 := Lib.hid (row_on HR2.out hbq)
  replace HX1 := Lib.hid (row_on HX1.out hbq)
  replace HY1 := Lib.hid (row_on HY1.out hbq)
  replace HA := Lib.hid (HA.out.below hbq)
  replace HC := Lib.hid (HC.out.below hbq)
  replace K0 := Lib.hid (K0.out.below hbq)
  replace K1 := Lib.hid (K1.out.below hbq)
  replace K2 := Lib.hid (K2.out.below hbq)
  replace K3 := Lib.hid (K3.out.below hbq)
  replace HX := Lib.hid (HX.out.below hbq)
  replace G1 := Lib.hid (G1.out.below hbq)
  replace G2 := Lib.hid (G2.out.below hbq)
  replace HB := Lib.hid (HB.out.trans (hbq.mono HB.out.size))
  have HZ1 := Lib.hid hq
  clear hbq hq
  generalize wc0.alloc (.cells #[.int .i64 tA.k, .int .i64 tA.n, .string tA.s, .slice aG2 tA.args.length cG2] 30 (0, 0)) = Wc0 at *
  clear hev
  have hts : tA.size ≤ 3 := hts
  have p1 : (nA != nA) = false := by simp
  have p2 : (eA != eA) = false := by simp
  obtain ⟨x0, x1, x2, x3⟩ := row4 HY1.out
  obtain ⟨y0, y1, y2, y3⟩ := row4 HZ1.out
  go_wp2_with fail
  refine (same_me (by omega) _ _ _ G1.out G2.out).mono ?_
  rintro e10 wd0 ⟨rfl, hbq⟩
  replace HR1 := Lib.hid (row_on HR1.out hbq)
  replace HR2 := Lib.hid (row_on HR2.out hbq)
  replace HX1 := Lib.hid (row_on HX1.out hbq)
  replace HY1 := Lib.hid (row_on HY1.out hbq)
  replace HZ1 := Lib.hid (row_on HZ1.out hbq)
  replace HA := Lib.hid (HA.out.below hbq)
  replace HC := Lib.hid (HC.out.below hbq)
  replace K0 := Lib.hid (K0.out.below hbq)
  replace K1 := Lib.hid (K1.out.below hbq)
  replace K2 := Lib.hid (K2.out.below hbq)
  replace K3 := Lib.hid (K3.out.below hbq)
  replace HX := Lib.hid (HX.out.below hbq)
  replace G1 := Lib.hid (G1.out.below hbq)
  replace G2 := Lib.hid (G2.out.below hbq)
  replace HB := Lib.hid (HB.out.trans (hbq.mono HB.out.size))
  clear hbq
  clear x0 x1 x2 x3 y0 y1 y2 y3 p1 p2 hts
  go_wp2_with fail
  clear G1 G2 HX HX1 HY1 HZ1
  rw [rounds_succ]
  have HX := K1
  go_upto_region 10 with fail
  have hbq := below_new wd0 (.cells #[.int .i64 B.k, .int .i64 B.n, .string B.s, .slice ak1 B.args.length ck1] 30 (0, 0))
  have hq := heap_alloc_new wd0 (.cells #[.int .i64 B.k, .int .i64 B.n, .string B.s, .slice ak1 B.args.length ck1] 30 (0, 0))
  have hzq : wd0.heap.size < (wd0.alloc (.cells #[.int .i64 B.k, .int .i64 B.n, .string B.s, .slice ak1 B.args.length ck1] 30 (0, 0))).heap.size := by simp
  replace HR1 := Lib.hid (row_on HR1.out hbq)
  replace HR2 := Lib.hid (row_on HR2.out hbq)
  replace HA := Lib.hid (HA.out.below hbq)
  replace HC := Lib.hid (HC.out.below hbq)
  replace K0 := Lib.hid (K0.out.below hbq)
  replace K1 := Lib.hid (K1.out.below hbq)
  replace K2 := Lib.hid (K2.out.below hbq)
  replace K3 := Lib.hid (K3.out.below hbq)
  replace HX := Lib.hid (HX.out.below hbq)
  replace HB := Lib.hid (HB.out.trans (hbq.mono HB.out.size))
  have HX1 := Lib.hid hq
  clear hbq hq
  generalize wd0.alloc (.cells #[.int .i64 B.k, .int .i64 B.n, .string B.s, .slice ak1 B.args.length ck1] 30 (0, 0)) = Wa1 at *
  obtain ⟨x0, x1, x2, x3⟩ := row4 HX1.out
  go_wp2_with fail
  clear x0 x1 x2 x3
  refine (go_EvalA B _ _ (by omega) HFB.out HX.out).mono ?_
  rintro ewb1 wb1 ⟨vwb1, rfl, hiq, hbq⟩
  replace HR1 := Lib.hid (row_on HR1.out hbq)
  replace HR2 := Lib.hid (row_on HR2.out hbq)
  replace HX1 := Lib.hid (row_on HX1.out hbq)
  replace HA := Lib.hid (HA.out.below hbq)
  replace HC := Lib.hid (HC.out.below hbq)
  replace K0 := Lib.hid (K0.out.below hbq)
  replace K1 := Lib.hid (K1.out.below hbq)
  replace K2 := Lib.hid (K2.out.below hbq)
  replace K3 := Lib.hid (K3.out.below hbq)
  replace HX := Lib.hid (HX.out.below hbq)
  replace HB := Lib.hid (HB.out.trans (hbq.mono HB.out.size))
  have hts := eval_tsize B
  generalize hev : evalT B = rA at hiq hts ⊢
  obtain ⟨qG1, rfl, hiq⟩ := hiq
  obtain ⟨nA, eA, tA⟩ := rA
  simp only at hiq ⊢
  have G1 := Lib.hid hiq
  clear hiq hbq
  obtain ⟨aG1, cG1, rfl⟩ := G1.out.form
  go_upto_region 11 with fail
  have hbq := below_new wb1 (.cells #[.int .i64 tA.k, .int .i64 tA.n, .string tA.s, .slice aG1 tA.args.length cG1] 30 (0, 0))
  have hq := heap_alloc_new wb1 (.cells #[.int .i64 tA.k, .int .i64 tA.n, .string tA.s, .slice aG1 tA.args.length cG1] 30 (0, 0))
  have hzq : wb1.heap.size < (wb1.alloc (.cells #[.int .i64 tA.k, .int .i64 tA.n, .string tA.s, .slice aG1 tA.args.length cG1] 30 (0, 0))).heap.size := by simp
  replace HR1 := Lib.hid (row_on HR1.out hbq)
  replace HR2 := Lib.hid (row_on HR2.out hbq)
  replace HX1 := Lib.hid (row_on HX1.out hbq)
  replace HA := Lib.hid (HA.out.below hbq)
  replace HC := Lib.hid (HC.out.below hbq)
  replace K0 := Lib.hid (K0.out.below hbq)
  replace K1 := Lib.hid (K1.out.below hbq)
  replace K2 := Lib.hid (K2.out.below hbq)
  replace K3 := Lib.hid (K3.out.below hbq)
  replace HX := Lib.hid (HX.out.below hbq)
  replace G1 := Lib.hid (G1.out.below hbq)
  replace HB := Lib.hid (HB.out.trans (hbq.mono HB.out.size))
  have HY1 := Lib.hid hq
  clear hbq hq
  generalize wb1.alloc (.cells #[.int .i64 tA.k, .int .i64 tA.n, .string tA.s, .slice aG1 tA.args.length cG1] 30 (0, 0)) = Wb1 at *
  obtain ⟨x0, x1, x2, x3⟩ := row4 HX1.out
  go_wp2_with fail
  clear x0 x1 x2 x3
  refine (ref_EvalA B _ _ (by omega) HFB.out HX.out).mono ?_
  rintro ewc1 wc1 ⟨vwc1, rfl, hiq, hbq⟩
  replace HR1 := Lib.hid (row_on HR1.out hbq)
  replace HR2 := Lib.hid (row_on HR2.out hbq)
  replace HX1 := Lib.hid (row_on HX1.out hbq)
  replace HY1 := Lib.hid (row_on HY1.out hbq)
  replace HA := Lib.hid (HA.out.below hbq)
  replace HC := Lib.hid (HC.out.below hbq)
  replace K0 := Lib.hid (K0.out.below hbq)
  replace K1 := Lib.hid (K1.out.below hbq)
  replace K2 := Lib.hid (K2.out.below hbq)
  replace K3 := Lib.hid (K3.out.below hbq)
  replace HX := Lib.hid (HX.out.below hbq)
  replace G1 := Lib.hid (G1.out.below hbq)
  replace HB := Lib.hid (HB.out.trans (hbq.mono HB.out.size))
  rw [hev] at hiq
  obtain ⟨qG2, rfl, hiq⟩ := hiq
  simp only at hiq ⊢
  have G2 := Lib.hid hiq
  clear hiq hbq
  obtain ⟨aG2, cG2, rfl⟩ := G2.out.form
  go_upto_region 12 with fail
  have hbq := below_new wc1 (.cells #[.int .i64 tA.k, .int .i64 tA.n, .string tA.s, .slice aG2 tA.args.length cG2] 30 (0, 0))
  have hq := heap_alloc_new wc1 (.cells #[.int .i64 tA.k, .int .i64 tA.n, .string tA.s, .slice aG2 tA.args.length cG2] 30 (0, 0))
  have hzq : wc1.heap.size < (wc1.alloc (.cells #[.int .i64 tA.k, .int .i64 tA.n, .string tA.s, .slice aG2 tA.args.length cG2] 30 (0, 0))).heap.size := by simp
  replace HR1 := Lib.hid (row_on HR1.out hbq)
  replace HR2 := Lib.hid (row_on HR2.out hbq)
  replace HX1 := Lib.hid (row_on HX1.out hbq)
  replace HY1 := Lib.hid (row_on HY1.out hbq)
  replace HA := Lib.hid (HA.out.below hbq)
  replace HC := Lib.hid (HC.out.below hbq)
  replace K0 := Lib.hid (K0.out.below hbq)
  replace K1 := Lib.hid (K1.out.below hbq)
  replace K2 := Lib.hid (K2.out.below hbq)
  replace K3 := Lib.hid (K3.out.below hbq)
  replace HX := Lib.hid (HX.out.below hbq)
  replace G1 := Lib.hid (G1.out.below hbq)
  replace G2 := Lib.hid (G2.out.below hbq)
  replace HB := Lib.hid (HB.out.trans (hbq.mono HB.out.size))
  have HZ1 := Lib.hid hq
  clear hbq hq
  generalize wc1.alloc (.cells #[.int .i64 tA.k, .int .i64 tA.n, .string tA.s, .slice aG2 tA.args.length cG2] 30 (0, 0)) = Wc1 at *
  clear hev
  have hts : tA.size ≤ 3 := hts
  have p1 : (nA != nA) = false := by simp
  have p2 : (eA != eA) = false := by simp
  obtain ⟨x0, x1, x2, x3⟩ := row4 HY1.out
  obtain ⟨y0, y1, y2, y3⟩ := row4 HZ1.out
  go_wp2_with fail
  refine (same_me (by omega) _ _ _ G1.out G2.out).mono ?_
  rintro e10 wd1 ⟨rfl, hbq⟩
  replace HR1 := Lib.hid (row_on HR1.out hbq)
  replace HR2 := Lib.hid (row_on HR2.out hbq)
  replace HX1 := Lib.hid (row_on HX1.out hbq)
  replace HY1 := Lib.hid (row_on HY1.out hbq)
  replace HZ1 := Lib.hid (row_on HZ1.out hbq)
  replace HA := Lib.hid (HA.out.below hbq)
  replace HC := Lib.hid (HC.out.below hbq)
  replace K0 := Lib.hid (K0.out.below hbq)
  replace K1 := Lib.hid (K1.out.below hbq)
  replace K2 := Lib.hid (K2.out.below hbq)
  replace K3 := Lib.hid (K3.out.below hbq)
  replace HX := Lib.hid (HX.out.below hbq)
  replace G1 := Lib.hid (G1.out.below hbq)
  replace G2 := Lib.hid (G2.out.below hbq)
  replace HB := Lib.hid (HB.out.trans (hbq.mono HB.out.size))
  clear hbq
  clear x0 x1 x2 x3 y0 y1 y2 y3 p1 p2 hts
  go_wp2_with fail
  clear G1 G2 HX HX1 HY1 HZ1
  rw [rounds_succ]
  have HX := K2
  go_upto_region 10 with fail
  have hbq := below_new wd1 (.cells #[.int .i64 (mendT A).k, .int .i64 (mendT A).n, .string (mendT A).s, .slice ak2 (mendT A).args.length ck2] 30 (0, 0))
  have hq := heap_alloc_new wd1 (.cells #[.int .i64 (mendT A).k, .int .i64 (mendT A).n, .string (mendT A).s, .slice ak2 (mendT A).args.length ck2] 30 (0, 0))
  have hzq : wd1.heap.size < (wd1.alloc (.cells #[.int .i64 (mendT A).k, .int .i64 (mendT A).n, .string (mendT A).s, .slice ak2 (mendT A).args.length ck2] 30 (0, 0))).heap.size := by simp
  replace HR1 := Lib.hid (row_on HR1.out hbq)
  replace HR2 := Lib.hid (row_on HR2.out hbq)
  replace HA := Lib.hid (HA.out.below hbq)
  replace HC := Lib.hid (HC.out.below hbq)
  replace K0 := Lib.hid (K0.out.below hbq)
  replace K1 := Lib.hid (K1.out.below hbq)
  replace K2 := Lib.hid (K2.out.below hbq)
  replace K3 := Lib.hid (K3.out.below hbq)
  replace HX := Lib.hid (HX.out.below hbq)
  replace HB := Lib.hid (HB.out.trans (hbq.mono HB.out.size))
  have HX1 := Lib.hid hq
  clear hbq hq
  generalize wd1.alloc (.cells #[.int .i64 (mendT A).k, .int .i64 (mendT A).n, .string (mendT A).s, .slice ak2 (mendT A).args.length ck2] 30 (0, 0)) = Wa2 at *
  obtain ⟨x0, x1, x2, x3⟩ := row4 HX1.out
  go_wp2_with fail
  clear x0 x1 x2 x3
  refine (go_EvalA (mendT A) _ _ (by omega) HFMA.out HX.out).mono ?_
  rintro ewb2 wb2 ⟨vwb2, rfl, hiq, hbq⟩
  replace HR1 := Lib.hid (row_on HR1.out hbq)
  replace HR2 := Lib.hid (row_on HR2.out hbq)
  replace HX1 := Lib.hid (row_on HX1.out hbq)
  replace HA := Lib.hid (HA.out.below hbq)
  replace HC := Lib.hid (HC.out.below hbq)
  replace K0 := Lib.hid (K0.out.below hbq)
  replace K1 := Lib.hid (K1.out.below hbq)
  replace K2 := Lib.hid (K2.out.below hbq)
  replace K3 := Lib.hid (K3.out.below hbq)
  replace HX := Lib.hid (HX.out.below hbq)
  replace HB := Lib.hid (HB.out.trans (hbq.mono HB.out.size))
  have hts := eval_tsize (mendT A)
  generalize hev : evalT (mendT A) = rA at hiq hts ⊢
  obtain ⟨qG1, rfl, hiq⟩ := hiq
  obtain ⟨nA, eA, tA⟩ := rA
  simp only at hiq ⊢
  have G1 := Lib.hid hiq
  clear hiq hbq
  obtain ⟨aG1, cG1, rfl⟩ := G1.out.form
  go_upto_region 11 with fail
  have hbq := below_new wb2 (.cells #[.int .i64 tA.k, .int .i64 tA.n, .string tA.s, .slice aG1 tA.args.length cG1] 30 (0, 0))
  have hq := heap_alloc_new wb2 (.cells #[.int .i64 tA.k, .int .i64 tA.n, .string tA.s, .slice aG1 tA.args.length cG1] 30 (0, 0))
  have hzq : wb2.heap.size < (wb2.alloc (.cells #[.int .i64 tA.k, .int .i64 tA.n, .string tA.s, .slice aG1 tA.args.length cG1] 30 (0, 0))).heap.size := by simp
  replace HR1 := Lib.hid (row_on HR1.out hbq)
  replace HR2 := Lib.hid (row_on HR2.out hbq)
  replace HX1 := Lib.hid (row_on HX1.out hbq)
  replace HA := Lib.hid (HA.out.below hbq)
  replace HC := Lib.hid (HC.out.below hbq)
  replace K0 := Lib.hid (K0.out.below hbq)
  replace K1 := Lib.hid (K1.out.below hbq)
  replace K2 := Lib.hid (K2.out.below hbq)
  replace K3 := Lib.hid (K3.out.below hbq)
  replace HX := Lib.hid (HX.out.below hbq)
  replace G1 := Lib.hid (G1.out.below hbq)
  replace HB := Lib.hid (HB.out.trans (hbq.mono HB.out.size))
  have HY1 := Lib.hid hq
  clear hbq hq
  generalize wb2.alloc (.cells #[.int .i64 tA.k, .int .i64 tA.n, .string tA.s, .slice aG1 tA.args.length cG1] 30 (0, 0)) = Wb2 at *
  obtain ⟨x0, x1, x2, x3⟩ := row4 HX1.out
  go_wp2_with fail
  clear x0 x1 x2 x3
  refine (ref_EvalA (mendT A) _ _ (by omega) HFMA.out HX.out).mono ?_
  rintro ewc2 wc2 ⟨vwc2, rfl, hiq, hbq⟩
  replace HR1 := Lib.hid (row_on HR1.out hbq)
  replace HR2 := Lib.hid (row_on HR2.out hbq)
  replace HX1 := Lib.hid (row_on HX1.out hbq)
  replace HY1 := Lib.hid (row_on HY1.out hbq)
  replace HA := Lib.hid (HA.out.below hbq)
  replace HC := Lib.hid (HC.out.below hbq)
  replace K0 := Lib.hid (K0.out.below hbq)
  replace K1 := Lib.hid (K1.out.below hbq)
  replace K2 := Lib.hid (K2.out.below hbq)
  replace K3 := Lib.hid (K3.out.below hbq)
  replace HX := Lib.hid (HX.out.below hbq)
  replace G1 := Lib.hid (G1.out.below hbq)
  replace HB := Lib.hid (HB.out.trans (hbq.mono HB.out.size))
  rw [hev] at hiq
  obtain ⟨qG2, rfl, hiq⟩ := hiq
  simp only at hiq ⊢
  have G2 := Lib.hid hiq
  clear hiq hbq
  obtain ⟨aG2, cG2, rfl⟩ := G2.out.form
  go_upto_region 12 with fail
  have hbq := below_new wc2 (.cells #[.int .i64 tA.k, .int .i64 tA.n, .string tA.s, .slice aG2 tA.args.length cG2] 30 (0, 0))
  have hq := heap_alloc_new wc2 (.cells #[.int .i64 tA.k, .int .i64 tA.n, .string tA.s, .slice aG2 tA.args.length cG2] 30 (0, 0))
  have hzq : wc2.heap.size < (wc2.alloc (.cells #[.int .i64 tA.k, .int .i64 tA.n, .string tA.s, .slice aG2 tA.args.length cG2] 30 (0, 0))).heap.size := by simp
  replace HR1 := Lib.hid (row_on HR1.out hbq)
  replace HR2 := Lib.hid (row_on HR2.out hbq)
  replace HX1 := Lib.hid (row_on HX1.out hbq)
  replace HY1 := Lib.hid (row_on HY1.out hbq)
  replace HA := Lib.hid (HA.out.below hbq)
  replace HC := Lib.hid (HC.out.below hbq)
  replace K0 := Lib.hid (K0.out.below hbq)
  replace K1 := Lib.hid (K1.out.below hbq)
  replace K2 := Lib.hid (K2.out.below hbq)
  replace K3 := Lib.hid (K3.out.below hbq)
  replace HX := Lib.hid (HX.out.below hbq)
  replace G1 := Lib.hid (G1.out.below hbq)
  replace G2 := Lib.hid (G2.out.below hbq)
  replace HB := Lib.hid (HB.out.trans (hbq.mono HB.out.size))
  have HZ1 := Lib.hid hq
  clear hbq hq
  generalize wc2.alloc (.cells #[.int .i64 tA.k, .int .i64 tA.n, .string tA.s, .slice aG2 tA.args.length cG2] 30 (0, 0)) = Wc2 at *
  clear hev
  have hts : tA.size ≤ 3 := hts
  have p1 : (nA != nA) = false := by simp
  have p2 : (eA != eA) = false := by simp
  obtain ⟨x0, x1, x2, x3⟩ := row4 HY1.out
  obtain ⟨y0, y1, y2, y3⟩ := row4 HZ1.out
  go_wp2_with fail
  refine (same_me (by omega) _ _ _ G1.out G2.out).mono ?_
  rintro e10 wd2 ⟨rfl, hbq⟩
  replace HR1 := Lib.hid (row_on HR1.out hbq)
  replace HR2 := Lib.hid (row_on HR2.out hbq)
  replace HX1 := Lib.hid (row_on HX1.out hbq)
  replace HY1 := Lib.hid (row_on HY1.out hbq)
  replace HZ1 := Lib.hid (row_on HZ1.out hbq)
  replace HA := Lib.hid (HA.out.below hbq)
  replace HC := Lib.hid (HC.out.below hbq)
  replace K0 := Lib.hid (K0.out.below hbq)
  replace K1 := Lib.hid (K1.out.below hbq)
  replace K2 := Lib.hid (K2.out.below hbq)
  replace K3 := Lib.hid (K3.out.below hbq)
  replace HX := Lib.hid (HX.out.below hbq)
  replace G1 := Lib.hid (G1.out.below hbq)
  replace G2 := Lib.hid (G2.out.below hbq)
  replace HB := Lib.hid (HB.out.trans (hbq.mono HB.out.size))
  clear hbq
  clear x0 x1 x2 x3 y0 y1 y2 y3 p1 p2 hts
  go_wp2_with fail
  clear G1 G2 HX HX1 HY1 HZ1
  rw [rounds_succ]
  have HX := K3
  go_upto_region 10 with fail
  have hbq := below_new wd2 (.cells #[.int .i64 (mendT B).k, .int .i64 (mendT B).n, .string (mendT B).s, .slice ak3 (mendT B).args.length ck3] 30 (0, 0))
  have hq := heap_alloc_new wd2 (.cells #[.int .i64 (mendT B).k, .int .i64 (mendT B).n, .string (mendT B).s, .slice ak3 (mendT B).args.length ck3] 30 (0, 0))
  have hzq : wd2.heap.size < (wd2.alloc (.cells #[.int .i64 (mendT B).k, .int .i64 (mendT B).n, .string (mendT B).s, .slice ak3 (mendT B).args.length ck3] 30 (0, 0))).heap.size := by simp
  replace HR1 := Lib.hid (row_on HR1.out hbq)
  replace HR2 := Lib.hid (row_on HR2.out hbq)
  replace HA := Lib.hid (HA.out.below hbq)
  replace HC := Lib.hid (HC.out.below hbq)
  replace K0 := Lib.hid (K0.out.below hbq)
  replace K1 := Lib.hid (K1.out.below hbq)
  replace K2 := Lib.hid (K2.out.below hbq)
  replace K3 := Lib.hid (K3.out.below hbq)
  replace HX := Lib.hid (HX.out.below hbq)
  replace HB := Lib.hid (HB.out.trans (hbq.mono HB.out.size))
  have HX1 := Lib.hid hq
  clear hbq hq
  generalize wd2.alloc (.cells #[.int .i64 (mendT B).k, .int .i64 (mendT B).n, .string (mendT B).s, .slice ak3 (mendT B).args.length ck3] 30 (0, 0)) = Wa3 at *
  obtain ⟨x0, x1, x2, x3⟩ := row4 HX1.out
  go_wp2_with fail
  clear x0 x1 x2 x3
  refine (go_EvalA (mendT B) _ _ (by omega) HFMB.out HX.out).mono ?_
  rintro ewb3 wb3 ⟨vwb3, rfl, hiq, hbq⟩
  replace HR1 := Lib.hid (row_on HR1.out hbq)
  replace HR2 := Lib.hid (row_on HR2.out hbq)
  replace HX1 := Lib.hid (row_on HX1.out hbq)
  replace HA := Lib.hid (HA.out.below hbq)
  replace HC := Lib.hid (HC.out.below hbq)
  replace K0 := Lib.hid (K0.out.below hbq)
  replace K1 := Lib.hid (K1.out.below hbq)
  replace K2 := Lib.hid (K2.out.below hbq)
  replace K3 := Lib.hid (K3.out.below hbq)
  replace HX := Lib.hid (HX.out.below hbq)
  replace HB := Lib.hid (HB.out.trans (hbq.mono HB.out.size))
  have hts := eval_tsize (mendT B)
  generalize hev : evalT (mendT B) = rA at hiq hts ⊢
  obtain ⟨qG1, rfl, hiq⟩ := hiq
  obtain ⟨nA, eA, tA⟩ := rA
  simp only at hiq ⊢
  have G1 := Lib.hid hiq
  clear hiq hbq
  obtain ⟨aG1, cG1, rfl⟩ := G1.out.form
  go_upto_region 11 with fail
  have hbq := below_new wb3 (.cells #[.int .i64 tA.k, .int .i64 tA.n, .string tA.s, .slice aG1 tA.args.length cG1] 30 (0, 0))
  have hq := heap_alloc_new wb3 (.cells #[.int .i64 tA.k, .int .i64 tA.n, .string tA.s, .slice aG1 tA.args.length cG1] 30 (0, 0))
  have hzq : wb3.heap.size < (wb3.alloc (.cells #[.int .i64 tA.k, .int .i64 tA.n, .string tA.s, .slice aG1 tA.args.length cG1] 30 (0, 0))).heap.size := by simp
  replace HR1 := Lib.hid (row_on HR1.out hbq)
  replace HR2 := Lib.hid (row_on HR2.out hbq)
  replace HX1 := Lib.hid (row_on HX1.out hbq)
  replace HA := Lib.hid (HA.out.below hbq)
  replace HC := Lib.hid (HC.out.below hbq)
  replace K0 := Lib.hid (K0.out.below hbq)
  replace K1 := Lib.hid (K1.out.below hbq)
  replace K2 := Lib.hid (K2.out.below hbq)
  replace K3 := Lib.hid (K3.out.below hbq)
  replace HX := Lib.hid (HX.out.below hbq)
  replace G1 := Lib.hid (G1.out.below hbq)
  replace HB := Lib.hid (HB.out.trans (hbq.mono HB.out.size))
  have HY1 := Lib.hid hq
  clear hbq hq
  generalize wb3.alloc (.cells #[.int .i64 tA.k, .int .i64 tA.n, .string tA.s, .slice aG1 tA.args.length cG1] 30 (0, 0)) = Wb3 at *
  obtain ⟨x0, x1, x2, x3⟩ := row4 HX1.out
  go_wp2_with fail
  clear x0 x1 x2 x3
  refine (ref_EvalA (mendT B) _ _ (by omega) HFMB.out HX.out).mono ?_
  rintro ewc3 wc3 ⟨vwc3, rfl, hiq, hbq⟩
  replace HR1 := Lib.hid (row_on HR1.out hbq)
  replace HR2 := Lib.hid (row_on HR2.out hbq)
  replace HX1 := Lib.hid (row_on HX1.out hbq)
  replace HY1 := Lib.hid (row_on HY1.out hbq)
  replace HA := Lib.hid (HA.out.below hbq)
  replace HC := Lib.hid (HC.out.below hbq)
  replace K0 := Lib.hid (K0.out.below hbq)
  replace K1 := Lib.hid (K1.out.below hbq)
  replace K2 := Lib.hid (K2.out.below hbq)
  replace K3 := Lib.hid (K3.out.below hbq)
  replace HX := Lib.hid (HX.out.below hbq)
  replace G1 := Lib.hid (G1.out.below hbq)
  replace HB := Lib.hid (HB.out.trans (hbq.mono HB.out.size))
  rw [hev] at hiq
  obtain ⟨qG2, rfl, hiq⟩ := hiq
  simp only at hiq ⊢
  have G2 := Lib.hid hiq
  clear hiq hbq
  obtain ⟨aG2, cG2, rfl⟩ := G2.out.form
  go_upto_region 12 with fail
  have hbq := below_new wc3 (.cells #[.int .i64 tA.k, .int .i64 tA.n, .string tA.s, .slice aG2 tA.args.length cG2] 30 (0, 0))
  have hq := heap_alloc_new wc3 (.cells #[.int .i64 tA.k, .int .i64 tA.n, .string tA.s, .slice aG2 tA.args.length cG2] 30 (0, 0))
  have hzq : wc3.heap.size < (wc3.alloc (.cells #[.int .i64 tA.k, .int .i64 tA.n, .string tA.s, .slice aG2 tA.args.length cG2] 30 (0, 0))).heap.size := by simp
  replace HR1 := Lib.hid (row_on HR1.out hbq)
  replace HR2 := Lib.hid (row_on HR2.out hbq)
  replace HX1 := Lib.hid (row_on HX1.out hbq)
  replace HY1 := Lib.hid (row_on HY1.out hbq)
  replace HA := Lib.hid (HA.out.below hbq)
  replace HC := Lib.hid (HC.out.below hbq)
  replace K0 := Lib.hid (K0.out.below hbq)
  replace K1 := Lib.hid (K1.out.below hbq)
  replace K2 := Lib.hid (K2.out.below hbq)
  replace K3 := Lib.hid (K3.out.below hbq)
  replace HX := Lib.hid (HX.out.below hbq)
  replace G1 := Lib.hid (G1.out.below hbq)
  replace G2 := Lib.hid (G2.out.below hbq)
  replace HB := Lib.hid (HB.out.trans (hbq.mono HB.out.size))
  have HZ1 := Lib.hid hq
  clear hbq hq
  generalize wc3.alloc (.cells #[.int .i64 tA.k, .int .i64 tA.n, .string tA.s, .slice aG2 tA.args.length cG2] 30 (0, 0)) = Wc3 at *
  clear hev
  have hts : tA.size ≤ 3 := hts
  have p1 : (nA != nA) = false := by simp
  have p2 : (eA != eA) = false := by simp
  obtain ⟨x0, x1, x2, x3⟩ := row4 HY1.out
  obtain ⟨y0, y1, y2, y3⟩ := row4 HZ1.out
  go_wp2_with fail
  refine (same_me (by omega) _ _ _ G1.out G2.out).mono ?_
  rintro e10 wd3 ⟨rfl, hbq⟩
  replace HR1 := Lib.hid (row_on HR1.out hbq)
  replace HR2 := Lib.hid (row_on HR2.out hbq)
  replace HX1 := Lib.hid (row_on HX1.out hbq)
  replace HY1 := Lib.hid (row_on HY1.out hbq)
  replace HZ1 := Lib.hid (row_on HZ1.out hbq)
  replace HA := Lib.hid (HA.out.below hbq)
  replace HC := Lib.hid (HC.out.below hbq)
  replace K0 := Lib.hid (K0.out.below hbq)
  replace K1 := Lib.hid (K1.out.below hbq)
  replace K2 := Lib.hid (K2.out.below hbq)
  replace K3 := Lib.hid (K3.out.below hbq)
  replace HX := Lib.hid (HX.out.below hbq)
  replace G1 := Lib.hid (G1.out.below hbq)
  replace G2 := Lib.hid (G2.out.below hbq)
  replace HB := Lib.hid (HB.out.trans (hbq.mono HB.out.size))
  clear hbq
  clear x0 x1 x2 x3 y0 y1 y2 y3 p1 p2 hts
  go_wp2_with fail
  clear G1 G2 HX HX1 HY1 HZ1
  rw [rounds_succ]
  clear ix0 ix1 ix2 ix3
  go_wp2_with fail
  clear K0 K1 K2 K3
  obtain ⟨r1, r2, r3, hres⟩ : ∃ r1 r2 r3, holdsT op (mendT A) (mendT B) = (r1, r2, r3) := ⟨_, _, _, rfl⟩
  have HR := Lib.hid hres
  have hts := holds_tsize op (mendT A) (mendT B)
  have htk := holds_tok op (mendT A) (mendT B)
  rw [hres] at hts htk
  simp only at hts htk
  have HTK := Lib.hid htk
  clear hres htk
  have hw15 := HB.out.size
  refine wp_region_rest (by kernel_rfl) ?_
  have hd := (Below.refl wd3.heap.size wd3).drew
  replace HR1 := Lib.hid (row_on HR1.out hd)
  replace HR2 := Lib.hid (row_on HR2.out hd)
  replace HA := Lib.hid (HA.out.below hd)
  replace HC := Lib.hid (HC.out.below hd)
  replace HB := Lib.hid (HB.out.trans (hd.mono HB.out.size))
  clear hd
  generalize wd3.drew = W0 at *
  have hw0 := HB.out.size
  have hlo0 := (Array.getElem?_eq_some_iff.1 HR1.out).1
  have hlo1 := (Array.getElem?_eq_some_iff.1 HR2.out).1
  have LA := Lib.hid HA.out.low
  have LC := Lib.hid HC.out.low
  refine rest_opsL 0 13 113 [_, _, _, _, _, _, _, _, _, _, _, _, _] (pk 0 [isV ?a2_0, isV ((.agg #[.int .i64 A.k, .int .i64 A.n, .string A.s, .slice aA A.args.length cA])), fun v u => IsTm u AnyB v (mendT A), isV ((.agg #[.int .i64 B.k, .int .i64 B.n, .string B.s, .slice aC B.args.length cC])), fun v u => IsTm u AnyB v (mendT B), fun v u => HdV u v (r1, r2, r3), fun v u => HdV u v (r1, r2, r3), isV (.bool r1), isV (.int .i64 r2), fun v u => IsTm u AnyB v r3, fun v u => NewVar W0.heap.size #[.int .i64 0, .int .i64 0, .string ⟨#[]⟩, .slice none 0 0] 30 v u, isV ?a2_11, isV ?a2_12]) (fun j => match j with | 10 => ptrBlk | _ => fun _ => none) rfl (by kernel_rfl) (by kernel_rfl) rfl (.inr (by kernel_rfl)) ?hS2 ?hop2 ?_
  case hop2 =>
    refine hops_cons ?_ ?_
    · intro v u hu hs Q' hQ
      simp only [putAll, dstOf]
      clear hs
      go_wp2
      exact ⟨rfl, Below.refl _ _, by (show _ = _; rfl), fun _ h => nomatch h⟩
    refine hops_cons ?_ ?_
    · intro v u hu hs Q' hQ
      simp only [putAll, dstOf]
      obtain ⟨f0, f1, f2, f3⟩ := row4 (row_on HR1.out hu)
      obtain ⟨h0, h1, h2, h3⟩ := row4 (row_on HR2.out hu)
      clear hs
      go_wp2
      exact ⟨rfl, Below.refl _ _, by (show _ = _; rfl), fun _ h => nomatch h⟩
    refine hops_cons ?_ ?_
    · intro v u hu hs Q' hQ
      simp only [putAll, dstOf]
      have s_1 : v 1 = (.agg #[.int .i64 A.k, .int .i64 A.n, .string A.s, .slice aA A.args.length cA]) := hs 1 (by kernel_rfl) (by decide) (by decide)
      obtain ⟨f0, f1, f2, f3⟩ := row4 (row_on HR1.out hu)
      obtain ⟨h0, h1, h2, h3⟩ := row4 (row_on HR2.out hu)
      clear hs
      go_wp2_with (go_at_call 10; refine (ref_mendA A _ _ (by omega) (HA.out.below hu)).mono ?_; rintro e1 w1 ⟨v1, rfl, hi1, hb1⟩)
      exact ⟨rfl, hb1, hi1, fun _ h => nomatch h⟩
    refine hops_cons ?_ ?_
    · intro v u hu hs Q' hQ
      simp only [putAll, dstOf]
      obtain ⟨f0, f1, f2, f3⟩ := row4 (row_on HR1.out hu)
      obtain ⟨h0, h1, h2, h3⟩ := row4 (row_on HR2.out hu)
      clear hs
      go_wp2
      exact ⟨rfl, Below.refl _ _, by (show _ = _; rfl), fun _ h => nomatch h⟩
    refine hops_cons ?_ ?_
    · intro v u hu hs Q' hQ
      simp only [putAll, dstOf]
      have s_2 : IsTm u AnyB (v 2) (mendT A) := hs 2 (by kernel_rfl) (by decide) (by decide)
      have s_3 : v 3 = (.agg #[.int .i64 B.k, .int .i64 B.n, .string B.s, .slice aC B.args.length cC]) := hs 3 (by kernel_rfl) (by decide) (by decide)
      obtain ⟨f0, f1, f2, f3⟩ := row4 (row_on HR1.out hu)
      obtain ⟨h0, h1, h2, h3⟩ := row4 (row_on HR2.out hu)
      clear hs
      go_wp2_with (go_at_call 10; refine (ref_mendA B _ _ (by omega) (HC.out.below hu)).mono ?_; rintro e1 w1 ⟨v1, rfl, hi1, hb1⟩)
      exact ⟨rfl, hb1, hi1, fun _ h => nomatch h⟩
    refine hops_cons ?_ ?_
    · intro v u hu hs Q' hQ
      simp only [putAll, dstOf]
      have s_0 : v 0 = _ := hs 0 (by kernel_rfl) (by decide) (by decide)
      have s_2 : IsTm u AnyB (v 2) (mendT A) := hs 2 (by kernel_rfl) (by decide) (by decide)
      have s_4 : IsTm u AnyB (v 4) (mendT B) := hs 4 (by kernel_rfl) (by decide) (by decide)
      obtain ⟨f0, f1, f2, f3⟩ := row4 (row_on HR1.out hu)
      obtain ⟨h0, h1, h2, h3⟩ := row4 (row_on HR2.out hu)
      clear hs
      go_wp2_with (go_at_call 22; refine (go_HoldsA op (mendT A) (mendT B) _ _ _ (by omega) (by omega) HFMA.out HFMB.out s_2 s_4).mono ?_; rintro e1 w1 ⟨v1, rfl, hi1, hb1⟩; rw [HR.out] at hi1)
      exact ⟨rfl, hb1, hi1, fun _ h => nomatch h⟩
    refine hops_cons ?_ ?_
    · intro v u hu hs Q' hQ
      simp only [putAll, dstOf]
      have s_5 : HdV u (v 5) (r1, r2, r3) := hs 5 (by kernel_rfl) (by decide) (by decide)
      clear hs
      go_wp2
      exact ⟨rfl, Below.refl _ _, s_5, fun _ h => nomatch h⟩
    refine hops_cons ?_ ?_
    · intro v u hu hs Q' hQ
      simp only [putAll, dstOf]
      have s_6 : HdV u (v 6) (r1, r2, r3) := hs 6 (by kernel_rfl) (by decide) (by decide)
      obtain ⟨f0, f1, f2, f3⟩ := row4 (row_on HR1.out hu)
      obtain ⟨h0, h1, h2, h3⟩ := row4 (row_on HR2.out hu)
      clear hs
      (obtain ⟨q, hq, -⟩ := s_6; rw [hq]; go_wp2)
      exact ⟨rfl, Below.refl _ _, by (show _ = _; rfl), fun _ h => nomatch h⟩
    refine hops_cons ?_ ?_
    · intro v u hu hs Q' hQ
      simp only [putAll, dstOf]
      have s_6 : HdV u (v 6) (r1, r2, r3) := hs 6 (by kernel_rfl) (by decide) (by decide)
      obtain ⟨f0, f1, f2, f3⟩ := row4 (row_on HR1.out hu)
      obtain ⟨h0, h1, h2, h3⟩ := row4 (row_on HR2.out hu)
      clear hs
      (obtain ⟨q, hq, -⟩ := s_6; rw [hq]; go_wp2)
      exact ⟨rfl, Below.refl _ _, by (show _ = _; rfl), fun _ h => nomatch h⟩
    refine hops_cons ?_ ?_
    · intro v u hu hs Q' hQ
      simp only [putAll, dstOf]
      have s_6 : HdV u (v 6) (r1, r2, r3) := hs 6 (by kernel_rfl) (by decide) (by decide)
      obtain ⟨f0, f1, f2, f3⟩ := row4 (row_on HR1.out hu)
      obtain ⟨h0, h1, h2, h3⟩ := row4 (row_on HR2.out hu)
      clear hs
      (obtain ⟨q, hq, hi⟩ := s_6; rw [hq]; go_wp2)
      exact ⟨rfl, Below.refl _ _, hi, fun _ h => nomatch h⟩
    refine hops_cons ?_ ?_
    · intro v u hu hs Q' hQ
      simp only [putAll, dstOf]
      clear hs
      go_wp2
      exact NewVar.made hu rfl rfl
    refine hops_cons ?_ ?_
    · intro v u hu hs Q' hQ
      simp only [putAll, dstOf]
      have s_0 : v 0 = _ := hs 0 (by kernel_rfl) (by decide) (by decide)
      have s_1 : v 1 = (.agg #[.int .i64 A.k, .int .i64 A.n, .string A.s, .slice aA A.args.length cA]) := hs 1 (by kernel_rfl) (by decide) (by decide)
      have s_2 : IsTm u AnyB (v 2) (mendT A) := hs 2 (by kernel_rfl) (by decide) (by decide)
      have s_3 : v 3 = (.agg #[.int .i64 B.k, .int .i64 B.n, .string B.s, .slice aC B.args.length cC]) := hs 3 (by kernel_rfl) (by decide) (by decide)
      have s_4 : IsTm u AnyB (v 4) (mendT B) := hs 4 (by kernel_rfl) (by decide) (by decide)
      have s_5 : HdV u (v 5) (r1, r2, r3) := hs 5 (by kernel_rfl) (by decide) (by decide)
      have s_6 : HdV u (v 6) (r1, r2, r3) := hs 6 (by kernel_rfl) (by decide) (by decide)
      have s_7 : v 7 = .bool r1 := hs 7 (by kernel_rfl) (by decide) (by decide)
      have s_10 : NewVar W0.heap.size #[.int .i64 0, .int .i64 0, .string ⟨#[]⟩, .slice none 0 0] 30 (v 10) u := hs 10 (by kernel_rfl) (by decide) (by decide)
      clear hs
      go_wp2
      exact ⟨rfl, Below.refl _ _, by (show _ = _; rfl), fun _ h => nomatch h⟩
    refine hops_cons ?_ ?_
    · intro v u hu hs Q' hQ
      simp only [putAll, dstOf]
      have s_0 : v 0 = _ := hs 0 (by kernel_rfl) (by decide) (by decide)
      have s_1 : v 1 = (.agg #[.int .i64 A.k, .int .i64 A.n, .string A.s, .slice aA A.args.length cA]) := hs 1 (by kernel_rfl) (by decide) (by decide)
      have s_2 : IsTm u AnyB (v 2) (mendT A) := hs 2 (by kernel_rfl) (by decide) (by decide)
      have s_3 : v 3 = (.agg #[.int .i64 B.k, .int .i64 B.n, .string B.s, .slice aC B.args.length cC]) := hs 3 (by kernel_rfl) (by decide) (by decide)
      have s_4 : IsTm u AnyB (v 4) (mendT B) := hs 4 (by kernel_rfl) (by decide) (by decide)
      have s_5 : HdV u (v 5) (r1, r2, r3) := hs 5 (by kernel_rfl) (by decide) (by decide)
      have s_6 : HdV u (v 6) (r1, r2, r3) := hs 6 (by kernel_rfl) (by decide) (by decide)
      have s_7 : v 7 = .bool r1 := hs 7 (by kernel_rfl) (by decide) (by decide)
      have s_8 : v 8 = .int .i64 r2 := hs 8 (by kernel_rfl) (by decide) (by decide)
      have s_10 : NewVar W0.heap.size #[.int .i64 0, .int .i64 0, .string ⟨#[]⟩, .slice none 0 0] 30 (v 10) u := hs 10 (by kernel_rfl) (by decide) (by decide)
      have s_11 : v 11 = _ := hs 11 (by kernel_rfl) (by decide) (by decide)
      clear hs
      go_wp2
      exact ⟨rfl, Below.refl _ _, by (show _ = _; rfl), fun _ h => nomatch h⟩
    exact hops_nil
  case hS2 =>
    intro j v u u' hkj hjn h hb
    match j, hkj, hjn, h with
    | 0, _, _, h => exact h
    | 1, _, _, h => exact h
    | 2, _, _, h => exact h.below hb
    | 3, _, _, h => exact h
    | 4, _, _, h => exact h.below hb
    | 5, _, _, h => exact h.below hb
    | 6, _, _, h => exact h.below hb
    | 7, _, _, h => exact h
    | 8, _, _, h => exact h
    | 9, _, _, h => exact h.below hb
    | 10, _, _, h => exact h.below hb
    | 11, _, _, h => exact h
    | 12, _, _, h => exact h
    | q + 13, _, hq, _ => exact absurd hq (by omega)
  intro v u hu hs hap
  have s_0 : v 0 = _ := hs 0 (by decide) (by decide)
  have s_1 : v 1 = (.agg #[.int .i64 A.k, .int .i64 A.n, .string A.s, .slice aA A.args.length cA]) := hs 1 (by decide) (by decide)
  have s_2 : IsTm u AnyB (v 2) (mendT A) := hs 2 (by decide) (by decide)
  have s_3 : v 3 = (.agg #[.int .i64 B.k, .int .i64 B.n, .string B.s, .slice aC B.args.length cC]) := hs 3 (by decide) (by decide)
  have s_4 : IsTm u AnyB (v 4) (mendT B) := hs 4 (by decide) (by decide)
  have s_5 : HdV u (v 5) (r1, r2, r3) := hs 5 (by decide) (by decide)
  have s_6 : HdV u (v 6) (r1, r2, r3) := hs 6 (by decide) (by decide)
  have s_7 : v 7 = .bool r1 := hs 7 (by decide) (by decide)
  have s_8 : v 8 = .int .i64 r2 := hs 8 (by decide) (by decide)
  have s_9 : IsTm u AnyB (v 9) r3 := hs 9 (by decide) (by decide)
  have s_10 : NewVar W0.heap.size #[.int .i64 0, .int .i64 0, .string ⟨#[]⟩, .slice none 0 0] 30 (v 10) u := hs 10 (by decide) (by decide)
  have s_11 : v 11 = _ := hs 11 (by decide) (by decide)
  have s_12 : v 12 = _ := hs 12 (by decide) (by decide)
  simp only [putAll, dstOf]
  replace HR1 := Lib.hid (row_on HR1.out hu)
  replace HR2 := Lib.hid (row_on HR2.out hu)
  replace HA := Lib.hid (HA.out.below hu)
  replace HC := Lib.hid (HC.out.below hu)
  replace HB := Lib.hid (HB.out.trans (hu.mono HB.out.size))
  replace LA := Lib.hid (LA.out.below hu)
  replace LC := Lib.hid (LC.out.below hu)
  obtain ⟨b15, e10, nb10, nh10⟩ := s_10
  obtain ⟨a15, c15, e9⟩ := s_9.form
  rw [e9] at s_9
  have NI := Lib.hid (s_9.avoidZ nh10 HTK.out)
  have HN := Lib.hid nh10
  clear s_9 s_2 s_4 s_5 s_6 nh10
  refine rest_lineL 13 14 [_] rfl (by kernel_rfl) (by decide) (by decide) (by kernel_rfl) ?_
  simp only [Act.put, List.getElem?_toArray, List.getElem?_cons_succ, List.getElem?_cons_zero, Option.bind_some, List.setIfInBounds_toArray, List.set_cons_succ, List.set_cons_zero, Nat.reduceAdd, s_0, s_1, s_3, s_7, s_8, e9, e10, s_11, s_12]
  go_wp2_with (first
    | (with_reducible show wpList _ _ _ (⟨none, .store _ (.tmp 21) _, _, _, _, _⟩ :: _) _ _
       refine wpList_store_row rfl 30 (.tmp 21) (.tmp 89) rfl b15 #[.int .i64 r3.k, .int .i64 r3.n, .string r3.s, .slice a15 r3.args.length c15] rfl rfl _ _ HN.out size_term rfl (one4 _ _ _ _ _ _) ?_))
  refine then_rest (rest_end (by decide) ?_)
  have hz0 : b15 < u.heap.size := (Array.getElem?_eq_some_iff.1 HN.out).1
  have hn0 : w3.heap.size ≠ b15 := by have := hlo0; omega
  replace HR1 := Lib.hid ((setRow_other u b15 w3.heap.size (#[.int .i64 r3.k, .int .i64 r3.n, .string r3.s, .slice a15 r3.args.length c15] : Array Value) hn0).trans HR1.out)
  have hn1 : w4.heap.size ≠ b15 := by have := hlo1; omega
  replace HR2 := Lib.hid ((setRow_other u b15 w4.heap.size (#[.int .i64 r3.k, .int .i64 r3.n, .string r3.s, .slice a15 r3.args.length c15] : Array Value) hn1).trans HR2.out)
  have HK1 := Lib.hid (setRow_heap u b15 _ (#[.int .i64 r3.k, .int .i64 r3.n, .string r3.s, .slice a15 r3.args.length c15] : Array Value) _ _ HN.out)
  replace HB := Lib.hid (show Below w.heap.size w (u.setRow b15 (#[.int .i64 r3.k, .int .i64 r3.n, .string r3.s, .slice a15 r3.args.length c15] : Array Value)) from HB.out.trans ⟨rfl, rfl, rfl, by simp, fun k hk => setRow_other _ _ _ _ (by omega)⟩)
  replace HA := Lib.hid (LA.out.imp (w' := (u.setRow b15 (#[.int .i64 r3.k, .int .i64 r3.n, .string r3.s, .slice a15 r3.args.length c15] : Array Value))) (fun _ _ => (trivial : AnyB _)) fun b' h _ => setRow_other _ _ _ _ (by have := h.2; omega))
  replace HC := Lib.hid (LC.out.imp (w' := (u.setRow b15 (#[.int .i64 r3.k, .int .i64 r3.n, .string r3.s, .slice a15 r3.args.length c15] : Array Value))) (fun _ _ => (trivial : AnyB _)) fun b' h _ => setRow_other _ _ _ _ (by have := h.2; omega))
  have HI1 := Lib.hid (NI.out.imp (w' := (u.setRow b15 (#[.int .i64 r3.k, .int .i64 r3.n, .string r3.s, .slice a15 r3.args.length c15] : Array Value))) (fun _ _ => (trivial : AnyB _)) fun b' h _ => setRow_other _ _ _ _ h.2)
  clear HN NI LA LC
  generalize u.setRow b15 (#[.int .i64 r3.k, .int .i64 r3.n, .string r3.s, .slice a15 r3.args.length c15] : Array Value) = V1 at *
  clear hlo0 hn0 hlo1 hn1
  have hw15 := HB.out.size
  go_wp2_with fail
  refine wp_region_rest (by kernel_rfl) ?_
  have hd := (Below.refl V1.heap.size V1).drew
  replace HR1 := Lib.hid (row_on HR1.out hd)
  replace HR2 := Lib.hid (row_on HR2.out hd)
  replace HK1 := Lib.hid (row_on HK1.out hd)
  replace HA := Lib.hid (HA.out.below hd)
  replace HC := Lib.hid (HC.out.below hd)
  replace HI1 := Lib.hid (HI1.out.below hd)
  replace HB := Lib.hid (HB.out.trans (hd.mono HB.out.size))
  clear hd
  generalize V1.drew = W0 at *
  have hw0 := HB.out.size
  have hlo0 := (Array.getElem?_eq_some_iff.1 HR1.out).1
  have hlo1 := (Array.getElem?_eq_some_iff.1 HR2.out).1
  have hlo2 := (Array.getElem?_eq_some_iff.1 HK1.out).1
  have LA := Lib.hid HA.out.low
  have LC := Lib.hid HC.out.low
  have LI := Lib.hid HI1.out.low
  refine rest_opsL 0 13 113 [_, _, _, _, _, _, _, _, _, _, _, _, _] (pk 0 [isV ?a3_0, isV ((.agg #[.int .i64 A.k, .int .i64 A.n, .string A.s, .slice aA A.args.length cA])), fun v u => IsTm u AnyB v (mendT A), isV ((.agg #[.int .i64 B.k, .int .i64 B.n, .string B.s, .slice aC B.args.length cC])), fun v u => IsTm u AnyB v (mendT B), fun v u => HdV u v (r1, r2, r3), fun v u => HdV u v (r1, r2, r3), isV (.bool r1), isV (.int .i64 r2), fun v u => IsTm u AnyB v r3, fun v u => NewVar W0.heap.size #[.int .i64 0, .int .i64 0, .string ⟨#[]⟩, .slice none 0 0] 30 v u, isV ?a3_11, isV ?a3_12]) (fun j => match j with | 10 => ptrBlk | _ => fun _ => none) rfl (by kernel_rfl) (by kernel_rfl) rfl (.inr (by kernel_rfl)) ?hS3 ?hop3 ?_
  case hop3 =>
    refine hops_cons ?_ ?_
    · intro v u hu hs Q' hQ
      simp only [putAll, dstOf]
      clear hs
      go_wp2
      exact ⟨rfl, Below.refl _ _, by (show _ = _; rfl), fun _ h => nomatch h⟩
    refine hops_cons ?_ ?_
    · intro v u hu hs Q' hQ
      simp only [putAll, dstOf]
      obtain ⟨f0, f1, f2, f3⟩ := row4 (row_on HR1.out hu)
      obtain ⟨h0, h1, h2, h3⟩ := row4 (row_on HR2.out hu)
      clear hs
      go_wp2
      exact ⟨rfl, Below.refl _ _, by (show _ = _; rfl), fun _ h => nomatch h⟩
    refine hops_cons ?_ ?_
    · intro v u hu hs Q' hQ
      simp only [putAll, dstOf]
      have s_1 : v 1 = (.agg #[.int .i64 A.k, .int .i64 A.n, .string A.s, .slice aA A.args.length cA]) := hs 1 (by kernel_rfl) (by decide) (by decide)
      obtain ⟨f0, f1, f2, f3⟩ := row4 (row_on HR1.out hu)
      obtain ⟨h0, h1, h2, h3⟩ := row4 (row_on HR2.out hu)
      clear hs
      go_wp2_with (go_at_call 10; refine (ref_mendA A _ _ (by omega) (HA.out.below hu)).mono ?_; rintro e1 w1 ⟨v1, rfl, hi1, hb1⟩)
      exact ⟨rfl, hb1, hi1, fun _ h => nomatch h⟩
    refine hops_cons ?_ ?_
    · intro v u hu hs Q' hQ
      simp only [putAll, dstOf]
      obtain ⟨f0, f1, f2, f3⟩ := row4 (row_on HR1.out hu)
      obtain ⟨h0, h1, h2, h3⟩ := row4 (row_on HR2.out hu)
      clear hs
      go_wp2
      exact ⟨rfl, Below.refl _ _, by (show _ = _; rfl), fun _ h => nomatch h⟩
    refine hops_cons ?_ ?_
    · intro v u hu hs Q' hQ
      simp only [putAll, dstOf]
      have s_2 : IsTm u AnyB (v 2) (mendT A) := hs 2 (by kernel_rfl) (by decide) (by decide)
      have s_3 : v 3 = (.agg #[.int .i64 B.k, .int .i64 B.n, .string B.s, .slice aC B.args.length cC]) := hs 3 (by kernel_rfl) (by decide) (by decide)
      obtain ⟨f0, f1, f2, f3⟩ := row4 (row_on HR1.out hu)
      obtain ⟨h0, h1, h2, h3⟩ := row4 (row_on HR2.out hu)
      clear hs
      go_wp2_with (go_at_call 10; refine (ref_mendA B _ _ (by omega) (HC.out.below hu)).mono ?_; rintro e1 w1 ⟨v1, rfl, hi1, hb1⟩)
      exact ⟨rfl, hb1, hi1, fun _ h => nomatch h⟩
    refine hops_cons ?_ ?_
    · intro v u hu hs Q' hQ
      simp only [putAll, dstOf]
      have s_0 : v 0 = _ := hs 0 (by kernel_rfl) (by decide) (by decide)
      have s_2 : IsTm u AnyB (v 2) (mendT A) := hs 2 (by kernel_rfl) (by decide) (by decide)
      have s_4 : IsTm u AnyB (v 4) (mendT B) := hs 4 (by kernel_rfl) (by decide) (by decide)
      obtain ⟨f0, f1, f2, f3⟩ := row4 (row_on HR1.out hu)
      obtain ⟨h0, h1, h2, h3⟩ := row4 (row_on HR2.out hu)
      clear hs
      go_wp2_with (go_at_call 23; refine (ref_HoldsA op (mendT A) (mendT B) _ _ _ (by omega) (by omega) HFMA.out HFMB.out s_2 s_4).mono ?_; rintro e1 w1 ⟨v1, rfl, hi1, hb1⟩; rw [HR.out] at hi1)
      exact ⟨rfl, hb1, hi1, fun _ h => nomatch h⟩
    refine hops_cons ?_ ?_
    · intro v u hu hs Q' hQ
      simp only [putAll, dstOf]
      have s_5 : HdV u (v 5) (r1, r2, r3) := hs 5 (by kernel_rfl) (by decide) (by decide)
      clear hs
      go_wp2
      exact ⟨rfl, Below.refl _ _, s_5, fun _ h => nomatch h⟩
    refine hops_cons ?_ ?_
    · intro v u hu hs Q' hQ
      simp only [putAll, dstOf]
      have s_6 : HdV u (v 6) (r1, r2, r3) := hs 6 (by kernel_rfl) (by decide) (by decide)
      obtain ⟨f0, f1, f2, f3⟩ := row4 (row_on HR1.out hu)
      obtain ⟨h0, h1, h2, h3⟩ := row4 (row_on HR2.out hu)
      clear hs
      (obtain ⟨q, hq, -⟩ := s_6; rw [hq]; go_wp2)
      exact ⟨rfl, Below.refl _ _, by (show _ = _; rfl), fun _ h => nomatch h⟩
    refine hops_cons ?_ ?_
    · intro v u hu hs Q' hQ
      simp only [putAll, dstOf]
      have s_6 : HdV u (v 6) (r1, r2, r3) := hs 6 (by kernel_rfl) (by decide) (by decide)
      obtain ⟨f0, f1, f2, f3⟩ := row4 (row_on HR1.out hu)
      obtain ⟨h0, h1, h2, h3⟩ := row4 (row_on HR2.out hu)
      clear hs
      (obtain ⟨q, hq, -⟩ := s_6; rw [hq]; go_wp2)
      exact ⟨rfl, Below.refl _ _, by (show _ = _; rfl), fun _ h => nomatch h⟩
    refine hops_cons ?_ ?_
    · intro v u hu hs Q' hQ
      simp only [putAll, dstOf]
      have s_6 : HdV u (v 6) (r1, r2, r3) := hs 6 (by kernel_rfl) (by decide) (by decide)
      obtain ⟨f0, f1, f2, f3⟩ := row4 (row_on HR1.out hu)
      obtain ⟨h0, h1, h2, h3⟩ := row4 (row_on HR2.out hu)
      clear hs
      (obtain ⟨q, hq, hi⟩ := s_6; rw [hq]; go_wp2)
      exact ⟨rfl, Below.refl _ _, hi, fun _ h => nomatch h⟩
    refine hops_cons ?_ ?_
    · intro v u hu hs Q' hQ
      simp only [putAll, dstOf]
      clear hs
      go_wp2
      exact NewVar.made hu rfl rfl
    refine hops_cons ?_ ?_
    · intro v u hu hs Q' hQ
      simp only [putAll, dstOf]
      have s_0 : v 0 = _ := hs 0 (by kernel_rfl) (by decide) (by decide)
      have s_1 : v 1 = (.agg #[.int .i64 A.k, .int .i64 A.n, .string A.s, .slice aA A.args.length cA]) := hs 1 (by kernel_rfl) (by decide) (by decide)
      have s_2 : IsTm u AnyB (v 2) (mendT A) := hs 2 (by kernel_rfl) (by decide) (by decide)
      have s_3 : v 3 = (.agg #[.int .i64 B.k, .int .i64 B.n, .string B.s, .slice aC B.args.length cC]) := hs 3 (by kernel_rfl) (by decide) (by decide)
      have s_4 : IsTm u AnyB (v 4) (mendT B) := hs 4 (by kernel_rfl) (by decide) (by decide)
      have s_5 : HdV u (v 5) (r1, r2, r3) := hs 5 (by kernel_rfl) (by decide) (by decide)
      have s_6 : HdV u (v 6) (r1, r2, r3) := hs 6 (by kernel_rfl) (by decide) (by decide)
      have s_7 : v 7 = .bool r1 := hs 7 (by kernel_rfl) (by decide) (by decide)
      have s_10 : NewVar W0.heap.size #[.int .i64 0, .int .i64 0, .string ⟨#[]⟩, .slice none 0 0] 30 (v 10) u := hs 10 (by kernel_rfl) (by decide) (by decide)
      clear hs
      go_wp2
      exact ⟨rfl, Below.refl _ _, by (show _ = _; rfl), fun _ h => nomatch h⟩
    refine hops_cons ?_ ?_
    · intro v u hu hs Q' hQ
      simp only [putAll, dstOf]
      have s_0 : v 0 = _ := hs 0 (by kernel_rfl) (by decide) (by decide)
      have s_1 : v 1 = (.agg #[.int .i64 A.k, .int .i64 A.n, .string A.s, .slice aA A.args.length cA]) := hs 1 (by kernel_rfl) (by decide) (by decide)
      have s_2 : IsTm u AnyB (v 2) (mendT A) := hs 2 (by kernel_rfl) (by decide) (by decide)
      have s_3 : v 3 = (.agg #[.int .i64 B.k, .int .i64 B.n, .string B.s, .slice aC B.args.length cC]) := hs 3 (by kernel_rfl) (by decide) (by decide)
      have s_4 : IsTm u AnyB (v 4) (mendT B) := hs 4 (by kernel_rfl) (by decide) (by decide)
      have s_5 : HdV u (v 5) (r1, r2, r3) := hs 5 (by kernel_rfl) (by decide) (by decide)
      have s_6 : HdV u (v 6) (r1, r2, r3) := hs 6 (by kernel_rfl) (by decide) (by decide)
      have s_7 : v 7 = .bool r1 := hs 7 (by kernel_rfl) (by decide) (by decide)
      have s_8 : v 8 = .int .i64 r2 := hs 8 (by kernel_rfl) (by decide) (by decide)
      have s_10 : NewVar W0.heap.size #[.int .i64 0, .int .i64 0, .string ⟨#[]⟩, .slice none 0 0] 30 (v 10) u := hs 10 (by kernel_rfl) (by decide) (by decide)
      have s_11 : v 11 = _ := hs 11 (by kernel_rfl) (by decide) (by decide)
      clear hs
      go_wp2
      exact ⟨rfl, Below.refl _ _, by (show _ = _; rfl), fun _ h => nomatch h⟩
    exact hops_nil
  case hS3 =>
    intro j v u u' hkj hjn h hb
    match j, hkj, hjn, h with
    | 0, _, _, h => exact h
    | 1, _, _, h => exact h
    | 2, _, _, h => exact h.below hb
    | 3, _, _, h => exact h
    | 4, _, _, h => exact h.below hb
    | 5, _, _, h => exact h.below hb
    | 6, _, _, h => exact h.below hb
    | 7, _, _, h => exact h
    | 8, _, _, h => exact h
    | 9, _, _, h => exact h.below hb
    | 10, _, _, h => exact h.below hb
    | 11, _, _, h => exact h
    | 12, _, _, h => exact h
    | q + 13, _, hq, _ => exact absurd hq (by omega)
  intro v u hu hs hap
  have s_0 : v 0 = _ := hs 0 (by decide) (by decide)
  have s_1 : v 1 = (.agg #[.int .i64 A.k, .int .i64 A.n, .string A.s, .slice aA A.args.length cA]) := hs 1 (by decide) (by decide)
  have s_2 : IsTm u AnyB (v 2) (mendT A) := hs 2 (by decide) (by decide)
  have s_3 : v 3 = (.agg #[.int .i64 B.k, .int .i64 B.n, .string B.s, .slice aC B.args.length cC]) := hs 3 (by decide) (by decide)
  have s_4 : IsTm u AnyB (v 4) (mendT B) := hs 4 (by decide) (by decide)
  have s_5 : HdV u (v 5) (r1, r2, r3) := hs 5 (by decide) (by decide)
  have s_6 : HdV u (v 6) (r1, r2, r3) := hs 6 (by decide) (by decide)
  have s_7 : v 7 = .bool r1 := hs 7 (by decide) (by decide)
  have s_8 : v 8 = .int .i64 r2 := hs 8 (by decide) (by decide)
  have s_9 : IsTm u AnyB (v 9) r3 := hs 9 (by decide) (by decide)
  have s_10 : NewVar W0.heap.size #[.int .i64 0, .int .i64 0, .string ⟨#[]⟩, .slice none 0 0] 30 (v 10) u := hs 10 (by decide) (by decide)
  have s_11 : v 11 = _ := hs 11 (by decide) (by decide)
  have s_12 : v 12 = _ := hs 12 (by decide) (by decide)
  simp only [putAll, dstOf]
  replace HR1 := Lib.hid (row_on HR1.out hu)
  replace HR2 := Lib.hid (row_on HR2.out hu)
  replace HK1 := Lib.hid (row_on HK1.out hu)
  replace HA := Lib.hid (HA.out.below hu)
  replace HC := Lib.hid (HC.out.below hu)
  replace HI1 := Lib.hid (HI1.out.below hu)
  replace HB := Lib.hid (HB.out.trans (hu.mono HB.out.size))
  replace LA := Lib.hid (LA.out.below hu)
  replace LC := Lib.hid (LC.out.below hu)
  replace LI := Lib.hid (LI.out.below hu)
  obtain ⟨b16, e10, nb10, nh10⟩ := s_10
  obtain ⟨a16, c16, e9⟩ := s_9.form
  rw [e9] at s_9
  have NI := Lib.hid (s_9.avoidZ nh10 HTK.out)
  have HN := Lib.hid nh10
  clear s_9 s_2 s_4 s_5 s_6 nh10
  refine rest_lineL 13 14 [_] rfl (by kernel_rfl) (by decide) (by decide) (by kernel_rfl) ?_
  simp only [Act.put, List.getElem?_toArray, List.getElem?_cons_succ, List.getElem?_cons_zero, Option.bind_some, List.setIfInBounds_toArray, List.set_cons_succ, List.set_cons_zero, Nat.reduceAdd, s_0, s_1, s_3, s_7, s_8, e9, e10, s_11, s_12]
  go_wp2_with (first
    | (with_reducible show wpList _ _ _ (⟨none, .store _ (.tmp 24) _, _, _, _, _⟩ :: _) _ _
       refine wpList_store_row rfl 30 (.tmp 24) (.tmp 99) rfl b16 #[.int .i64 r3.k, .int .i64 r3.n, .string r3.s, .slice a16 r3.args.length c16] rfl rfl _ _ HN.out size_term rfl (one4 _ _ _ _ _ _) ?_))
  refine then_rest (rest_end (by decide) ?_)
  have hz0 : b16 < u.heap.size := (Array.getElem?_eq_some_iff.1 HN.out).1
  have hn0 : w3.heap.size ≠ b16 := by have := hlo0; omega
  replace HR1 := Lib.hid ((setRow_other u b16 w3.heap.size (#[.int .i64 r3.k, .int .i64 r3.n, .string r3.s, .slice a16 r3.args.length c16] : Array Value) hn0).trans HR1.out)
  have hn1 : w4.heap.size ≠ b16 := by have := hlo1; omega
  replace HR2 := Lib.hid ((setRow_other u b16 w4.heap.size (#[.int .i64 r3.k, .int .i64 r3.n, .string r3.s, .slice a16 r3.args.length c16] : Array Value) hn1).trans HR2.out)
  have hn2 : b15 ≠ b16 := by have := hlo2; omega
  replace HK1 := Lib.hid ((setRow_other u b16 b15 (#[.int .i64 r3.k, .int .i64 r3.n, .string r3.s, .slice a16 r3.args.length c16] : Array Value) hn2).trans HK1.out)
  have HK2 := Lib.hid (setRow_heap u b16 _ (#[.int .i64 r3.k, .int .i64 r3.n, .string r3.s, .slice a16 r3.args.length c16] : Array Value) _ _ HN.out)
  replace HB := Lib.hid (show Below w.heap.size w (u.setRow b16 (#[.int .i64 r3.k, .int .i64 r3.n, .string r3.s, .slice a16 r3.args.length c16] : Array Value)) from HB.out.trans ⟨rfl, rfl, rfl, by simp, fun k hk => setRow_other _ _ _ _ (by omega)⟩)
  replace HA := Lib.hid (LA.out.imp (w' := (u.setRow b16 (#[.int .i64 r3.k, .int .i64 r3.n, .string r3.s, .slice a16 r3.args.length c16] : Array Value))) (fun _ _ => (trivial : AnyB _)) fun b' h _ => setRow_other _ _ _ _ (by have := h.2; omega))
  replace HC := Lib.hid (LC.out.imp (w' := (u.setRow b16 (#[.int .i64 r3.k, .int .i64 r3.n, .string r3.s, .slice a16 r3.args.length c16] : Array Value))) (fun _ _ => (trivial : AnyB _)) fun b' h _ => setRow_other _ _ _ _ (by have := h.2; omega))
  replace HI1 := Lib.hid (LI.out.imp (w' := (u.setRow b16 (#[.int .i64 r3.k, .int .i64 r3.n, .string r3.s, .slice a16 r3.args.length c16] : Array Value))) (fun _ _ => (trivial : AnyB _)) fun b' h _ => setRow_other _ _ _ _ (by have := h.2; omega))
  have HI2 := Lib.hid (NI.out.imp (w' := (u.setRow b16 (#[.int .i64 r3.k, .int .i64 r3.n, .string r3.s, .slice a16 r3.args.length c16] : Array Value))) (fun _ _ => (trivial : AnyB _)) fun b' h _ => setRow_other _ _ _ _ h.2)
  clear HN NI LA LC LI
  generalize u.setRow b16 (#[.int .i64 r3.k, .int .i64 r3.n, .string r3.s, .slice a16 r3.args.length c16] : Array Value) = V2 at *
  clear hlo0 hn0 hlo1 hn1 hlo2 hn2
  have p1 : (r1 == r1) = true := by simp
  have p2 : (r2 == r2) = true := by simp
  obtain ⟨x0, x1, x2, x3⟩ := row4 HK1.out
  obtain ⟨y0, y1, y2, y3⟩ := row4 HK2.out
  go_wp2_with fail
  refine (same_me (by omega) _ _ _ HI1.out HI2.out).mono ?_
  rintro e10 wf ⟨rfl, hbq⟩
  go_wp2
  go_ret
  exact ⟨rfl, HB.out.trans (hbq.mono HB.out.size)⟩
end Go.Proofs.Ytibjcfbilkkmkaa.Tms
