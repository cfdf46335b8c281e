/-
  FaultIndicators, walked over the program.
-/
import Derived.Test.YtlndoogiflcoeaaFltL0
namespace Go.Proofs.Ytlndoogiflcoeaa.Tms
open Go Go.RowKit Go.Proofs.Ytlndoogiflcoeaa.Reg

mutual
theorem sameT_refl : ∀ t : Tm, sameT t t = true
  | .mk k n s a => by simp [sameT, sameL_refl a]
theorem sameL_refl : ∀ l : List Tm, sameL l l = true
  | [] => by simp [sameL]
  | t :: l => by simp [sameL, sameT_refl t, sameL_refl l]
end

set_option maxRecDepth 100000 in
set_option maxHeartbeats 4000000 in
theorem law_indicators (s : ByteArray) (n : Int) (hn0 : 0 ≤ n) (hn : n < 256) (w : World) : Calls Try.prog 4 #[.string s, .int .u8 n] w (Says true w) := by
  by_cases h1000 : 1000 < s.size
  · go_enter Try.func4, Try.ntmps4
    go_wp2_with (go_at_call 9; refine (flt_alive _).mono ?_; rintro e1 w1 ⟨rfl, hb1⟩; have HB := Lib.hid hb1; clear hb1)
    go_ret
    exact ⟨rfl, HB.out⟩
  go_enter Try.func4, Try.ntmps4
  go_wp2_with (first
    | (go_at_call 9; refine (flt_alive _).mono ?_; rintro e1 w1 ⟨rfl, hb1⟩; have HB := Lib.hid hb1; clear hb1)
    | (go_at_call 21
       refine (flt_ind _ _ _).mono ?_
       rintro e2 w2 ⟨v2, rfl, hi2, hb2⟩
       obtain ⟨a2, c2, rfl⟩ := hi2.form
       have H2 := Lib.hid hi2
       have HB2 := Lib.hid (HB.out.trans (hb2.mono HB.out.size))
       clear hi2 hb2)
    | (go_at_call 17
       refine (flt_unknown _ _ _).mono ?_
       rintro e3 w3 ⟨v3, rfl, hi3, hb3⟩
       obtain ⟨a3, c3, rfl⟩ := hi3.form
       have H3 := Lib.hid hi3
       have HB3 := Lib.hid hb3
       clear hi3 hb3)
    | (go_at_call 19
       refine (flt_static _ _ _ _).mono ?_
       rintro e4 w4 ⟨v4, rfl, hi4, hb4⟩
       obtain ⟨a4, c4, rfl⟩ := hi4.form
       have H4 := Lib.hid hi4
       have HB4 := Lib.hid hb4
       clear hi4 hb4))
  have hr2 := heap_alloc_new w2 (.cells #[.int .i64 (indT s n).k, .int .i64 (indT s n).n, .string (indT s n).s, .slice a2 (indT s n).args.length c2] 29 (0, 0))
  have hb2 : Below w2.heap.size w2 _ := (Below.refl w2.heap.size w2).alloc (Nat.le_refl _) (.cells #[.int .i64 (indT s n).k, .int .i64 (indT s n).n, .string (indT s n).s, .slice a2 (indT s n).args.length c2] 29 (0, 0))
  have hs2 : w2.heap.size < (w2.alloc (.cells #[.int .i64 (indT s n).k, .int .i64 (indT s n).n, .string (indT s n).s, .slice a2 (indT s n).args.length c2] 29 (0, 0))).heap.size := by simp
  have hb3 := HB3.out
  have h3 := H3.out
  generalize w2.alloc (.cells #[.int .i64 (indT s n).k, .int .i64 (indT s n).n, .string (indT s n).s, .slice a2 (indT s n).args.length c2] 29 (0, 0)) = w2' at *
  obtain ⟨r0, r1, rsz, rbl⟩ := two w4 (.cells #[.int .i64 (unknownT s n).k, .int .i64 (unknownT s n).n, .string (unknownT s n).s, .slice a3 (unknownT s n).args.length c3] 29 (0, 0)) (.cells #[.int .i64 (staticT (⟨#[97, 99, 99, 101, 115, 115]⟩ : ByteArray) s n).k, .int .i64 (staticT (⟨#[97, 99, 99, 101, 115, 115]⟩ : ByteArray) s n).n, .string (staticT (⟨#[97, 99, 99, 101, 115, 115]⟩ : ByteArray) s n).s, .slice a4 (staticT (⟨#[97, 99, 99, 101, 115, 115]⟩ : ByteArray) s n).args.length c4] 29 (0, 0))
  generalize (w4.alloc (.cells #[.int .i64 (unknownT s n).k, .int .i64 (unknownT s n).n, .string (unknownT s n).s, .slice a3 (unknownT s n).args.length c3] 29 (0, 0))).alloc (.cells #[.int .i64 (staticT (⟨#[97, 99, 99, 101, 115, 115]⟩ : ByteArray) s n).k, .int .i64 (staticT (⟨#[97, 99, 99, 101, 115, 115]⟩ : ByteArray) s n).n, .string (staticT (⟨#[97, 99, 99, 101, 115, 115]⟩ : ByteArray) s n).s, .slice a4 (staticT (⟨#[97, 99, 99, 101, 115, 115]⟩ : ByteArray) s n).args.length c4] 29 (0, 0)) = W at *
  have hb4 := HB4.out
  have t34 : Below w3.heap.size w3 W := hb4.trans (rbl.mono hb4.size)
  have t2 : Below w2'.heap.size w2' W := hb3.trans (t34.mono hb3.size)
  have tb : Below w2.heap.size w2 W := hb2.trans (t2.mono (by omega))
  have i2 := H2.out.below tb
  have i3 := h3.below t34
  have i4 := H4.out.below rbl
  obtain ⟨pb, po, rfl, -, -, pat⟩ := i2.args.cells (by show 0 < 2; decide)
  obtain ⟨ub, uo, rfl, -, -, uat⟩ := i3.args.cells (by show 0 < 2; decide)
  obtain ⟨sb, so, rfl, -, -, sat⟩ := i4.args.cells (by show 0 < 3; decide)
  have p0 := (pat 0 (by show 0 < 2; decide)).read
  have p1 := (pat 1 (by show 1 < 2; decide)).read
  have u0 := (uat 0 (by show 0 < 2; decide)).read
  have u1 := (uat 1 (by show 1 < 2; decide)).read
  have s0 := (sat 0 (by show 0 < 3; decide)).read
  have s2 := (sat 2 (by show 2 < 3; decide)).read
  obtain ⟨_, _, -, -, p02, -⟩ := p0
  obtain ⟨_, _, -, p11, -⟩ := p1
  obtain ⟨ea, ec, -, -, -, u03, ui0, -⟩ := u0
  obtain ⟨ka, kc, u10, u11, u12, u13, ui1, -⟩ := u1
  obtain ⟨_, _, -, -, s02, -⟩ := s0
  obtain ⟨ma, mc, s20, s21, s22, s23, si2, -⟩ := s2
  obtain ⟨eb, eo, rfl, -, -, eat⟩ := ui0.args.cells (by show 0 < 2; decide)
  obtain ⟨na, nc, e10, e11, e12, e13, ei1, -⟩ := (eat 1 (by show 1 < 2; decide)).read
  have rp := row4 ((t2.block _ hs2).trans hr2)
  have ru := row4 r0
  have rs := row4 r1
  have hcells : Cells [(w2.heap.size, 0, .int .i64 4), (w2.heap.size, 1, .int .i64 0), (w2.heap.size, 2, .string ⟨#[47]⟩), (w2.heap.size, 3, .slice (some ⟨pb, po, none⟩) 2 c2), (pb, po + 2, .string s), (pb, po + 4 + 1, .int .i64 n),
      (w4.heap.size, 3, .slice (some ⟨ub, uo, none⟩) 2 c3), (ub, uo + 4, .int .i64 4), (ub, uo + 4 + 1, .int .i64 0), (ub, uo + 4 + 2, .string ⟨#[47]⟩), (ub, uo + 4 + 3, .slice ka 2 kc), (ub, uo + 3, .slice (some ⟨eb, eo, none⟩) 2 ec),
      (eb, eo + 4, .int .i64 4), (eb, eo + 4 + 1, .int .i64 0), (eb, eo + 4 + 2, .string ⟨#[47]⟩), (eb, eo + 4 + 3, .slice na 2 nc),
      (w4.heap.size + 1, 3, .slice (some ⟨sb, so, none⟩) 3 c4), (sb, so + 2, .string (⟨#[97, 99, 99, 101, 115, 115]⟩ : ByteArray)), (sb, so + 8, .int .i64 4), (sb, so + 8 + 1, .int .i64 0), (sb, so + 8 + 2, .string ⟨#[47]⟩), (sb, so + 8 + 3, .slice ma 2 mc)] W :=
    ⟨rp.1, rp.2.1, rp.2.2.1, rp.2.2.2, p02, p11, ru.2.2.2, u10, u11, u12, u13, u03, e10, e11, e12, e13, rs.2.2.2, s02, s20, s21, s22, s23, trivial⟩
  have j0 : IsTm W (fun b => False ∨ w1.heap.size ≤ b) (.agg #[.int .i64 4, .int .i64 0, .string ⟨#[47]⟩, .slice (some ⟨pb, po, none⟩) 2 c2]) (indT s n) := i2
  have j1 : IsTm W (fun b => False ∨ w2'.heap.size ≤ b) (.agg #[.int .i64 4, .int .i64 0, .string ⟨#[47]⟩, .slice ka 2 kc]) (indT s n) := ui1
  have j2 : IsTm W (fun b => False ∨ w2'.heap.size ≤ b) (.agg #[.int .i64 4, .int .i64 0, .string ⟨#[47]⟩, .slice na 2 nc]) (indT s n) := ei1
  have j3 : IsTm W (fun b => False ∨ w3.heap.size ≤ b) (.agg #[.int .i64 4, .int .i64 0, .string ⟨#[47]⟩, .slice ma 2 mc]) (indT s n) := si2
  have hbel : Below w.heap.size w W := HB2.out.trans (tb.mono HB2.out.size)
  have hd : Below W.heap.size W W.drew := (Below.refl _ _).drew
  have HC := Lib.hid (hcells.below hd)
  have J0 := Lib.hid (j0.below hd)
  have J1 := Lib.hid (j1.below hd)
  have J2 := Lib.hid (j2.below hd)
  have J3 := Lib.hid (j3.below hd)
  have HBW := Lib.hid hbel.drew
  clear hcells j0 j1 j2 j3 hbel hd i2 i3 i4 h3 pat uat sat eat ui0 ui1 ei1 si2 p02 p11 u03 u10 u11 u12 u13 s02 s20 s21 s22 s23 e10 e11 e12 e13 rp ru rs r0 r1 rsz rbl hb4 t34 t2 tb hb3 hb2 hs2 hr2 H2 H3 H4 HB HB2 HB3 HB4
  refine wp_region_rest (by kernel_rfl) ?_
  generalize W.drew = W0 at *
  have same : ∀ (v v' : Value) (P P' : Nat → Prop) (u : World), IsTm u P v (indT s n) → IsTm u P' v' (indT s n) → Calls Try.prog 14 #[v, v'] u (Says true u) := fun v v' P P' u h h' => by
    have := ref_same _ (indT s n) (indT s n) v v' P P' u (Nat.le_refl _) (by simp [Tm.size, sizeL, compT, atomT, indT, intT]) h h'
    rwa [sameT_refl] at this
  have SAME := Lib.hid same
  clear same
  have y := HC.out
  have f0 := y.1
  have f1 := y.2.1
  have f2 := y.2.2.1
  have f3 := y.2.2.2.1
  have f4 := y.2.2.2.2.1
  have f5 := y.2.2.2.2.2.1
  have f6 := y.2.2.2.2.2.2.1
  have f7 := y.2.2.2.2.2.2.2.1
  have f8 := y.2.2.2.2.2.2.2.2.1
  have f9 := y.2.2.2.2.2.2.2.2.2.1
  have f10 := y.2.2.2.2.2.2.2.2.2.2.1
  have f11 := y.2.2.2.2.2.2.2.2.2.2.2.1
  have f12 := y.2.2.2.2.2.2.2.2.2.2.2.2.1
  have f13 := y.2.2.2.2.2.2.2.2.2.2.2.2.2.1
  have f14 := y.2.2.2.2.2.2.2.2.2.2.2.2.2.2.1
  have f15 := y.2.2.2.2.2.2.2.2.2.2.2.2.2.2.2.1
  have f16 := y.2.2.2.2.2.2.2.2.2.2.2.2.2.2.2.2.1
  have f17 := y.2.2.2.2.2.2.2.2.2.2.2.2.2.2.2.2.2.1
  have f18 := y.2.2.2.2.2.2.2.2.2.2.2.2.2.2.2.2.2.2.1
  have f19 := y.2.2.2.2.2.2.2.2.2.2.2.2.2.2.2.2.2.2.2.1
  have f20 := y.2.2.2.2.2.2.2.2.2.2.2.2.2.2.2.2.2.2.2.2.1
  have f21 := y.2.2.2.2.2.2.2.2.2.2.2.2.2.2.2.2.2.2.2.2.2.1
  clear y
  refine rest_lineL 0 9 [_, _, _, _, _, _, _, _, _] rfl (by kernel_rfl) (by decide) (by decide) (by kernel_rfl) ?_
  go_wp2
  clear f0 f1 f2 f3 f4 f5 f6 f7 f8 f9 f10 f11 f12 f13 f14 f15 f16 f17 f18 f19 f20 f21
  refine then_rest ?_
  refine rest_opsL 9 16 108 [_, _, _, _, _, _, _] (pk 9 [isV ?a1_9, isV ?a1_10, isV ?a1_11, isV ?a1_12, isV ?a1_13, isV ?a1_14, isV ?a1_15]) (fun _ _ => none) rfl (by kernel_rfl) (by kernel_rfl) rfl (.inr (by kernel_rfl)) ?hS1 ?hop1 ?_
  case hop1 =>
    refine hops_cons ?_ ?_
    · intro v u hu hs Q' hQ
      simp only [putAll, dstOf]
      clear hs
      go_wp2
      exact ⟨rfl, Below.refl _ _, by (show _ = _; rfl), fun _ h => nomatch h⟩
    refine hops_cons ?_ ?_
    · intro v u hu hs Q' hQ
      simp only [putAll, dstOf]
      have s_9 : v 9 = _ := hs 9 (by kernel_rfl) (by decide) (by decide)
      clear hs
      go_wp2
      exact ⟨rfl, Below.refl _ _, by (show _ = _; rfl), fun _ h => nomatch h⟩
    refine hops_cons ?_ ?_
    · intro v u hu hs Q' hQ
      simp only [putAll, dstOf]
      have s_9 : v 9 = _ := hs 9 (by kernel_rfl) (by decide) (by decide)
      have s_10 : v 10 = _ := hs 10 (by kernel_rfl) (by decide) (by decide)
      have y := HC.out.below hu
      have f0 := y.1
      have f1 := y.2.1
      have f2 := y.2.2.1
      have f3 := y.2.2.2.1
      have f4 := y.2.2.2.2.1
      have f5 := y.2.2.2.2.2.1
      have f6 := y.2.2.2.2.2.2.1
      have f7 := y.2.2.2.2.2.2.2.1
      have f8 := y.2.2.2.2.2.2.2.2.1
      have f9 := y.2.2.2.2.2.2.2.2.2.1
      have f10 := y.2.2.2.2.2.2.2.2.2.2.1
      have f11 := y.2.2.2.2.2.2.2.2.2.2.2.1
      have f12 := y.2.2.2.2.2.2.2.2.2.2.2.2.1
      have f13 := y.2.2.2.2.2.2.2.2.2.2.2.2.2.1
      have f14 := y.2.2.2.2.2.2.2.2.2.2.2.2.2.2.1
      have f15 := y.2.2.2.2.2.2.2.2.2.2.2.2.2.2.2.1
      have f16 := y.2.2.2.2.2.2.2.2.2.2.2.2.2.2.2.2.1
      have f17 := y.2.2.2.2.2.2.2.2.2.2.2.2.2.2.2.2.2.1
      have f18 := y.2.2.2.2.2.2.2.2.2.2.2.2.2.2.2.2.2.2.1
      have f19 := y.2.2.2.2.2.2.2.2.2.2.2.2.2.2.2.2.2.2.2.1
      have f20 := y.2.2.2.2.2.2.2.2.2.2.2.2.2.2.2.2.2.2.2.2.1
      have f21 := y.2.2.2.2.2.2.2.2.2.2.2.2.2.2.2.2.2.2.2.2.2.1
      clear y
      clear hs
      go_wp2
      exact ⟨rfl, Below.refl _ _, by (show _ = _; rfl), fun _ h => nomatch h⟩
    refine hops_cons ?_ ?_
    · intro v u hu hs Q' hQ
      simp only [putAll, dstOf]
      have s_9 : v 9 = _ := hs 9 (by kernel_rfl) (by decide) (by decide)
      have s_11 : v 11 = _ := hs 11 (by kernel_rfl) (by decide) (by decide)
      clear hs
      go_wp2
      exact ⟨rfl, Below.refl _ _, by (show _ = _; rfl), fun _ h => nomatch h⟩
    refine hops_cons ?_ ?_
    · intro v u hu hs Q' hQ
      simp only [putAll, dstOf]
      have s_9 : v 9 = _ := hs 9 (by kernel_rfl) (by decide) (by decide)
      have s_12 : v 12 = _ := hs 12 (by kernel_rfl) (by decide) (by decide)
      clear hs
      go_wp2
      exact ⟨rfl, Below.refl _ _, by (show _ = _; rfl), fun _ h => nomatch h⟩
    refine hops_cons ?_ ?_
    · intro v u hu hs Q' hQ
      simp only [putAll, dstOf]
      have s_9 : v 9 = _ := hs 9 (by kernel_rfl) (by decide) (by decide)
      have s_13 : v 13 = _ := hs 13 (by kernel_rfl) (by decide) (by decide)
      have y := HC.out.below hu
      have f0 := y.1
      have f1 := y.2.1
      have f2 := y.2.2.1
      have f3 := y.2.2.2.1
      have f4 := y.2.2.2.2.1
      have f5 := y.2.2.2.2.2.1
      have f6 := y.2.2.2.2.2.2.1
      have f7 := y.2.2.2.2.2.2.2.1
      have f8 := y.2.2.2.2.2.2.2.2.1
      have f9 := y.2.2.2.2.2.2.2.2.2.1
      have f10 := y.2.2.2.2.2.2.2.2.2.2.1
      have f11 := y.2.2.2.2.2.2.2.2.2.2.2.1
      have f12 := y.2.2.2.2.2.2.2.2.2.2.2.2.1
      have f13 := y.2.2.2.2.2.2.2.2.2.2.2.2.2.1
      have f14 := y.2.2.2.2.2.2.2.2.2.2.2.2.2.2.1
      have f15 := y.2.2.2.2.2.2.2.2.2.2.2.2.2.2.2.1
      have f16 := y.2.2.2.2.2.2.2.2.2.2.2.2.2.2.2.2.1
      have f17 := y.2.2.2.2.2.2.2.2.2.2.2.2.2.2.2.2.2.1
      have f18 := y.2.2.2.2.2.2.2.2.2.2.2.2.2.2.2.2.2.2.1
      have f19 := y.2.2.2.2.2.2.2.2.2.2.2.2.2.2.2.2.2.2.2.1
      have f20 := y.2.2.2.2.2.2.2.2.2.2.2.2.2.2.2.2.2.2.2.2.1
      have f21 := y.2.2.2.2.2.2.2.2.2.2.2.2.2.2.2.2.2.2.2.2.2.1
      clear y
      clear hs
      go_wp2
      exact ⟨rfl, Below.refl _ _, by (show _ = _; rfl), fun _ h => nomatch h⟩
    refine hops_cons ?_ ?_
    · intro v u hu hs Q' hQ
      simp only [putAll, dstOf]
      have s_9 : v 9 = _ := hs 9 (by kernel_rfl) (by decide) (by decide)
      clear hs
      go_wp2
      exact ⟨rfl, Below.refl _ _, by (show _ = _; rfl), fun _ h => nomatch h⟩
    exact hops_nil
  case hS1 =>
    intro j v u u' hkj hjn h hb
    match j, hkj, hjn, h with
    | 9, _, _, h => exact h
    | 10, _, _, h => exact h
    | 11, _, _, h => exact h
    | 12, _, _, h => exact h
    | 13, _, _, h => exact h
    | 14, _, _, h => exact h
    | 15, _, _, h => exact h
    | q + 16, _, hq, _ => exact absurd hq (by omega)
  intro v u hu hs hap
  have s_9 : v 9 = _ := hs 9 (by decide) (by decide)
  have s_10 : v 10 = _ := hs 10 (by decide) (by decide)
  have s_11 : v 11 = _ := hs 11 (by decide) (by decide)
  have s_12 : v 12 = _ := hs 12 (by decide) (by decide)
  have s_13 : v 13 = _ := hs 13 (by decide) (by decide)
  have s_14 : v 14 = _ := hs 14 (by decide) (by decide)
  have s_15 : v 15 = _ := hs 15 (by decide) (by decide)
  simp only [putAll, dstOf]
  replace HC := Lib.hid (HC.out.below hu)
  replace J0 := Lib.hid (J0.out.below hu)
  replace J1 := Lib.hid (J1.out.below hu)
  replace J2 := Lib.hid (J2.out.below hu)
  replace J3 := Lib.hid (J3.out.below hu)
  replace HBW := Lib.hid (HBW.out.trans ((hu).mono HBW.out.size))
  clear hs hap hu
  have y := HC.out
  have f0 := y.1
  have f1 := y.2.1
  have f2 := y.2.2.1
  have f3 := y.2.2.2.1
  have f4 := y.2.2.2.2.1
  have f5 := y.2.2.2.2.2.1
  have f6 := y.2.2.2.2.2.2.1
  have f7 := y.2.2.2.2.2.2.2.1
  have f8 := y.2.2.2.2.2.2.2.2.1
  have f9 := y.2.2.2.2.2.2.2.2.2.1
  have f10 := y.2.2.2.2.2.2.2.2.2.2.1
  have f11 := y.2.2.2.2.2.2.2.2.2.2.2.1
  have f12 := y.2.2.2.2.2.2.2.2.2.2.2.2.1
  have f13 := y.2.2.2.2.2.2.2.2.2.2.2.2.2.1
  have f14 := y.2.2.2.2.2.2.2.2.2.2.2.2.2.2.1
  have f15 := y.2.2.2.2.2.2.2.2.2.2.2.2.2.2.2.1
  have f16 := y.2.2.2.2.2.2.2.2.2.2.2.2.2.2.2.2.1
  have f17 := y.2.2.2.2.2.2.2.2.2.2.2.2.2.2.2.2.2.1
  have f18 := y.2.2.2.2.2.2.2.2.2.2.2.2.2.2.2.2.2.2.1
  have f19 := y.2.2.2.2.2.2.2.2.2.2.2.2.2.2.2.2.2.2.2.1
  have f20 := y.2.2.2.2.2.2.2.2.2.2.2.2.2.2.2.2.2.2.2.2.1
  have f21 := y.2.2.2.2.2.2.2.2.2.2.2.2.2.2.2.2.2.2.2.2.2.1
  clear y
  refine rest_lineL 16 18 [_, _] rfl (by kernel_rfl) (by decide) (by decide) (by kernel_rfl) ?_
  go_wp2
  clear f0 f1 f2 f3 f4 f5 f6 f7 f8 f9 f10 f11 f12 f13 f14 f15 f16 f17 f18 f19 f20 f21
  clear s_9 s_10 s_11 s_12 s_13 s_14 s_15 v
  refine then_rest ?_
  refine rest_opsL 18 25 108 [_, _, _, _, _, _, _] (pk 18 [isV ?a2_18, isV ?a2_19, isV ?a2_20, isV ?a2_21, isV ?a2_22, isV ?a2_23, isV ?a2_24]) (fun _ _ => none) rfl (by kernel_rfl) (by kernel_rfl) rfl (.inr (by kernel_rfl)) ?hS2 ?hop2 ?_
  case hop2 =>
    refine hops_cons ?_ ?_
    · intro v u hu hs Q' hQ
      simp only [putAll, dstOf]
      clear hs
      go_wp2
      exact ⟨rfl, Below.refl _ _, by (show _ = _; rfl), fun _ h => nomatch h⟩
    refine hops_cons ?_ ?_
    · intro v u hu hs Q' hQ
      simp only [putAll, dstOf]
      have s_18 : v 18 = _ := hs 18 (by kernel_rfl) (by decide) (by decide)
      clear hs
      go_wp2
      exact ⟨rfl, Below.refl _ _, by (show _ = _; rfl), fun _ h => nomatch h⟩
    refine hops_cons ?_ ?_
    · intro v u hu hs Q' hQ
      simp only [putAll, dstOf]
      have s_18 : v 18 = _ := hs 18 (by kernel_rfl) (by decide) (by decide)
      have s_19 : v 19 = _ := hs 19 (by kernel_rfl) (by decide) (by decide)
      have y := HC.out.below hu
      have f0 := y.1
      have f1 := y.2.1
      have f2 := y.2.2.1
      have f3 := y.2.2.2.1
      have f4 := y.2.2.2.2.1
      have f5 := y.2.2.2.2.2.1
      have f6 := y.2.2.2.2.2.2.1
      have f7 := y.2.2.2.2.2.2.2.1
      have f8 := y.2.2.2.2.2.2.2.2.1
      have f9 := y.2.2.2.2.2.2.2.2.2.1
      have f10 := y.2.2.2.2.2.2.2.2.2.2.1
      have f11 := y.2.2.2.2.2.2.2.2.2.2.2.1
      have f12 := y.2.2.2.2.2.2.2.2.2.2.2.2.1
      have f13 := y.2.2.2.2.2.2.2.2.2.2.2.2.2.1
      have f14 := y.2.2.2.2.2.2.2.2.2.2.2.2.2.2.1
      have f15 := y.2.2.2.2.2.2.2.2.2.2.2.2.2.2.2.1
      have f16 := y.2.2.2.2.2.2.2.2.2.2.2.2.2.2.2.2.1
      have f17 := y.2.2.2.2.2.2.2.2.2.2.2.2.2.2.2.2.2.1
      have f18 := y.2.2.2.2.2.2.2.2.2.2.2.2.2.2.2.2.2.2.1
      have f19 := y.2.2.2.2.2.2.2.2.2.2.2.2.2.2.2.2.2.2.2.1
      have f20 := y.2.2.2.2.2.2.2.2.2.2.2.2.2.2.2.2.2.2.2.2.1
      have f21 := y.2.2.2.2.2.2.2.2.2.2.2.2.2.2.2.2.2.2.2.2.2.1
      clear y
      clear hs
      go_wp2
      exact ⟨rfl, Below.refl _ _, by (show _ = _; rfl), fun _ h => nomatch h⟩
    refine hops_cons ?_ ?_
    · intro v u hu hs Q' hQ
      simp only [putAll, dstOf]
      have s_18 : v 18 = _ := hs 18 (by kernel_rfl) (by decide) (by decide)
      have s_20 : v 20 = _ := hs 20 (by kernel_rfl) (by decide) (by decide)
      clear hs
      go_wp2
      exact ⟨rfl, Below.refl _ _, by (show _ = _; rfl), fun _ h => nomatch h⟩
    refine hops_cons ?_ ?_
    · intro v u hu hs Q' hQ
      simp only [putAll, dstOf]
      have s_18 : v 18 = _ := hs 18 (by kernel_rfl) (by decide) (by decide)
      have s_21 : v 21 = _ := hs 21 (by kernel_rfl) (by decide) (by decide)
      clear hs
      go_wp2
      exact ⟨rfl, Below.refl _ _, by (show _ = _; rfl), fun _ h => nomatch h⟩
    refine hops_cons ?_ ?_
    · intro v u hu hs Q' hQ
      simp only [putAll, dstOf]
      have s_18 : v 18 = _ := hs 18 (by kernel_rfl) (by decide) (by decide)
      have s_22 : v 22 = _ := hs 22 (by kernel_rfl) (by decide) (by decide)
      have y := HC.out.below hu
      have f0 := y.1
      have f1 := y.2.1
      have f2 := y.2.2.1
      have f3 := y.2.2.2.1
      have f4 := y.2.2.2.2.1
      have f5 := y.2.2.2.2.2.1
      have f6 := y.2.2.2.2.2.2.1
      have f7 := y.2.2.2.2.2.2.2.1
      have f8 := y.2.2.2.2.2.2.2.2.1
      have f9 := y.2.2.2.2.2.2.2.2.2.1
      have f10 := y.2.2.2.2.2.2.2.2.2.2.1
      have f11 := y.2.2.2.2.2.2.2.2.2.2.2.1
      have f12 := y.2.2.2.2.2.2.2.2.2.2.2.2.1
      have f13 := y.2.2.2.2.2.2.2.2.2.2.2.2.2.1
      have f14 := y.2.2.2.2.2.2.2.2.2.2.2.2.2.2.1
      have f15 := y.2.2.2.2.2.2.2.2.2.2.2.2.2.2.2.1
      have f16 := y.2.2.2.2.2.2.2.2.2.2.2.2.2.2.2.2.1
      have f17 := y.2.2.2.2.2.2.2.2.2.2.2.2.2.2.2.2.2.1
      have f18 := y.2.2.2.2.2.2.2.2.2.2.2.2.2.2.2.2.2.2.1
      have f19 := y.2.2.2.2.2.2.2.2.2.2.2.2.2.2.2.2.2.2.2.1
      have f20 := y.2.2.2.2.2.2.2.2.2.2.2.2.2.2.2.2.2.2.2.2.1
      have f21 := y.2.2.2.2.2.2.2.2.2.2.2.2.2.2.2.2.2.2.2.2.2.1
      clear y
      clear hs
      go_wp2
      exact ⟨rfl, Below.refl _ _, by (show _ = _; rfl), fun _ h => nomatch h⟩
    refine hops_cons ?_ ?_
    · intro v u hu hs Q' hQ
      simp only [putAll, dstOf]
      have s_18 : v 18 = _ := hs 18 (by kernel_rfl) (by decide) (by decide)
      clear hs
      go_wp2
      exact ⟨rfl, Below.refl _ _, by (show _ = _; rfl), fun _ h => nomatch h⟩
    exact hops_nil
  case hS2 =>
    intro j v u u' hkj hjn h hb
    match j, hkj, hjn, h with
    | 18, _, _, h => exact h
    | 19, _, _, h => exact h
    | 20, _, _, h => exact h
    | 21, _, _, h => exact h
    | 22, _, _, h => exact h
    | 23, _, _, h => exact h
    | 24, _, _, h => exact h
    | q + 25, _, hq, _ => exact absurd hq (by omega)
  intro v u hu hs hap
  have s_18 : v 18 = _ := hs 18 (by decide) (by decide)
  have s_19 : v 19 = _ := hs 19 (by decide) (by decide)
  have s_20 : v 20 = _ := hs 20 (by decide) (by decide)
  have s_21 : v 21 = _ := hs 21 (by decide) (by decide)
  have s_22 : v 22 = _ := hs 22 (by decide) (by decide)
  have s_23 : v 23 = _ := hs 23 (by decide) (by decide)
  have s_24 : v 24 = _ := hs 24 (by decide) (by decide)
  simp only [putAll, dstOf]
  replace HC := Lib.hid (HC.out.below hu)
  replace J0 := Lib.hid (J0.out.below hu)
  replace J1 := Lib.hid (J1.out.below hu)
  replace J2 := Lib.hid (J2.out.below hu)
  replace J3 := Lib.hid (J3.out.below hu)
  replace HBW := Lib.hid (HBW.out.trans ((hu).mono HBW.out.size))
  clear hs hap hu
  have y := HC.out
  have f0 := y.1
  have f1 := y.2.1
  have f2 := y.2.2.1
  have f3 := y.2.2.2.1
  have f4 := y.2.2.2.2.1
  have f5 := y.2.2.2.2.2.1
  have f6 := y.2.2.2.2.2.2.1
  have f7 := y.2.2.2.2.2.2.2.1
  have f8 := y.2.2.2.2.2.2.2.2.1
  have f9 := y.2.2.2.2.2.2.2.2.2.1
  have f10 := y.2.2.2.2.2.2.2.2.2.2.1
  have f11 := y.2.2.2.2.2.2.2.2.2.2.2.1
  have f12 := y.2.2.2.2.2.2.2.2.2.2.2.2.1
  have f13 := y.2.2.2.2.2.2.2.2.2.2.2.2.2.1
  have f14 := y.2.2.2.2.2.2.2.2.2.2.2.2.2.2.1
  have f15 := y.2.2.2.2.2.2.2.2.2.2.2.2.2.2.2.1
  have f16 := y.2.2.2.2.2.2.2.2.2.2.2.2.2.2.2.2.1
  have f17 := y.2.2.2.2.2.2.2.2.2.2.2.2.2.2.2.2.2.1
  have f18 := y.2.2.2.2.2.2.2.2.2.2.2.2.2.2.2.2.2.2.1
  have f19 := y.2.2.2.2.2.2.2.2.2.2.2.2.2.2.2.2.2.2.2.1
  have f20 := y.2.2.2.2.2.2.2.2.2.2.2.2.2.2.2.2.2.2.2.2.1
  have f21 := y.2.2.2.2.2.2.2.2.2.2.2.2.2.2.2.2.2.2.2.2.2.1
  clear y
  refine rest_lineL 25 33 [_, _, _, _, _, _, _, _] rfl (by kernel_rfl) (by decide) (by decide) (by kernel_rfl) ?_
  go_wp2
  clear f0 f1 f2 f3 f4 f5 f6 f7 f8 f9 f10 f11 f12 f13 f14 f15 f16 f17 f18 f19 f20 f21
  clear s_18 s_19 s_20 s_21 s_22 s_23 s_24 v
  refine then_rest ?_
  refine rest_opsL 33 39 108 [_, _, _, _, _, _] (pk 33 [isV ?a3_33, isV ?a3_34, isV ?a3_35, isV ?a3_36, isV ?a3_37, isV ?a3_38]) (fun _ _ => none) rfl (by kernel_rfl) (by kernel_rfl) rfl (.inr (by kernel_rfl)) ?hS3 ?hop3 ?_
  case hop3 =>
    refine hops_cons ?_ ?_
    · intro v u hu hs Q' hQ
      simp only [putAll, dstOf]
      clear hs
      go_wp2
      exact ⟨rfl, Below.refl _ _, by (show _ = _; rfl), fun _ h => nomatch h⟩
    refine hops_cons ?_ ?_
    · intro v u hu hs Q' hQ
      simp only [putAll, dstOf]
      have s_33 : v 33 = _ := hs 33 (by kernel_rfl) (by decide) (by decide)
      clear hs
      go_wp2
      exact ⟨rfl, Below.refl _ _, by (show _ = _; rfl), fun _ h => nomatch h⟩
    refine hops_cons ?_ ?_
    · intro v u hu hs Q' hQ
      simp only [putAll, dstOf]
      have s_33 : v 33 = _ := hs 33 (by kernel_rfl) (by decide) (by decide)
      have s_34 : v 34 = _ := hs 34 (by kernel_rfl) (by decide) (by decide)
      have y := HC.out.below hu
      have f0 := y.1
      have f1 := y.2.1
      have f2 := y.2.2.1
      have f3 := y.2.2.2.1
      have f4 := y.2.2.2.2.1
      have f5 := y.2.2.2.2.2.1
      have f6 := y.2.2.2.2.2.2.1
      have f7 := y.2.2.2.2.2.2.2.1
      have f8 := y.2.2.2.2.2.2.2.2.1
      have f9 := y.2.2.2.2.2.2.2.2.2.1
      have f10 := y.2.2.2.2.2.2.2.2.2.2.1
      have f11 := y.2.2.2.2.2.2.2.2.2.2.2.1
      have f12 := y.2.2.2.2.2.2.2.2.2.2.2.2.1
      have f13 := y.2.2.2.2.2.2.2.2.2.2.2.2.2.1
      have f14 := y.2.2.2.2.2.2.2.2.2.2.2.2.2.2.1
      have f15 := y.2.2.2.2.2.2.2.2.2.2.2.2.2.2.2.1
      have f16 := y.2.2.2.2.2.2.2.2.2.2.2.2.2.2.2.2.1
      have f17 := y.2.2.2.2.2.2.2.2.2.2.2.2.2.2.2.2.2.1
      have f18 := y.2.2.2.2.2.2.2.2.2.2.2.2.2.2.2.2.2.2.1
      have f19 := y.2.2.2.2.2.2.2.2.2.2.2.2.2.2.2.2.2.2.2.1
      have f20 := y.2.2.2.2.2.2.2.2.2.2.2.2.2.2.2.2.2.2.2.2.1
      have f21 := y.2.2.2.2.2.2.2.2.2.2.2.2.2.2.2.2.2.2.2.2.2.1
      clear y
      clear hs
      go_wp2
      exact ⟨rfl, Below.refl _ _, by (show _ = _; rfl), fun _ h => nomatch h⟩
    refine hops_cons ?_ ?_
    · intro v u hu hs Q' hQ
      simp only [putAll, dstOf]
      have s_33 : v 33 = _ := hs 33 (by kernel_rfl) (by decide) (by decide)
      have s_35 : v 35 = _ := hs 35 (by kernel_rfl) (by decide) (by decide)
      clear hs
      go_wp2
      exact ⟨rfl, Below.refl _ _, by (show _ = _; rfl), fun _ h => nomatch h⟩
    refine hops_cons ?_ ?_
    · intro v u hu hs Q' hQ
      simp only [putAll, dstOf]
      have s_33 : v 33 = _ := hs 33 (by kernel_rfl) (by decide) (by decide)
      have s_36 : v 36 = _ := hs 36 (by kernel_rfl) (by decide) (by decide)
      have y := HC.out.below hu
      have f0 := y.1
      have f1 := y.2.1
      have f2 := y.2.2.1
      have f3 := y.2.2.2.1
      have f4 := y.2.2.2.2.1
      have f5 := y.2.2.2.2.2.1
      have f6 := y.2.2.2.2.2.2.1
      have f7 := y.2.2.2.2.2.2.2.1
      have f8 := y.2.2.2.2.2.2.2.2.1
      have f9 := y.2.2.2.2.2.2.2.2.2.1
      have f10 := y.2.2.2.2.2.2.2.2.2.2.1
      have f11 := y.2.2.2.2.2.2.2.2.2.2.2.1
      have f12 := y.2.2.2.2.2.2.2.2.2.2.2.2.1
      have f13 := y.2.2.2.2.2.2.2.2.2.2.2.2.2.1
      have f14 := y.2.2.2.2.2.2.2.2.2.2.2.2.2.2.1
      have f15 := y.2.2.2.2.2.2.2.2.2.2.2.2.2.2.2.1
      have f16 := y.2.2.2.2.2.2.2.2.2.2.2.2.2.2.2.2.1
      have f17 := y.2.2.2.2.2.2.2.2.2.2.2.2.2.2.2.2.2.1
      have f18 := y.2.2.2.2.2.2.2.2.2.2.2.2.2.2.2.2.2.2.1
      have f19 := y.2.2.2.2.2.2.2.2.2.2.2.2.2.2.2.2.2.2.2.1
      have f20 := y.2.2.2.2.2.2.2.2.2.2.2.2.2.2.2.2.2.2.2.2.1
      have f21 := y.2.2.2.2.2.2.2.2.2.2.2.2.2.2.2.2.2.2.2.2.2.1
      clear y
      clear hs
      go_wp2
      exact ⟨rfl, Below.refl _ _, by (show _ = _; rfl), fun _ h => nomatch h⟩
    refine hops_cons ?_ ?_
    · intro v u hu hs Q' hQ
      simp only [putAll, dstOf]
      have s_33 : v 33 = _ := hs 33 (by kernel_rfl) (by decide) (by decide)
      have y := HC.out.below hu
      have f0 := y.1
      have f1 := y.2.1
      have f2 := y.2.2.1
      have f3 := y.2.2.2.1
      have f4 := y.2.2.2.2.1
      have f5 := y.2.2.2.2.2.1
      have f6 := y.2.2.2.2.2.2.1
      have f7 := y.2.2.2.2.2.2.2.1
      have f8 := y.2.2.2.2.2.2.2.2.1
      have f9 := y.2.2.2.2.2.2.2.2.2.1
      have f10 := y.2.2.2.2.2.2.2.2.2.2.1
      have f11 := y.2.2.2.2.2.2.2.2.2.2.2.1
      have f12 := y.2.2.2.2.2.2.2.2.2.2.2.2.1
      have f13 := y.2.2.2.2.2.2.2.2.2.2.2.2.2.1
      have f14 := y.2.2.2.2.2.2.2.2.2.2.2.2.2.2.1
      have f15 := y.2.2.2.2.2.2.2.2.2.2.2.2.2.2.2.1
      have f16 := y.2.2.2.2.2.2.2.2.2.2.2.2.2.2.2.2.1
      have f17 := y.2.2.2.2.2.2.2.2.2.2.2.2.2.2.2.2.2.1
      have f18 := y.2.2.2.2.2.2.2.2.2.2.2.2.2.2.2.2.2.2.1
      have f19 := y.2.2.2.2.2.2.2.2.2.2.2.2.2.2.2.2.2.2.2.1
      have f20 := y.2.2.2.2.2.2.2.2.2.2.2.2.2.2.2.2.2.2.2.2.1
      have f21 := y.2.2.2.2.2.2.2.2.2.2.2.2.2.2.2.2.2.2.2.2.2.1
      clear y
      clear hs
      go_wp2
      exact ⟨rfl, Below.refl _ _, by (show _ = _; rfl), fun _ h => nomatch h⟩
    exact hops_nil
  case hS3 =>
    intro j v u u' hkj hjn h hb
    match j, hkj, hjn, h with
    | 33, _, _, h => exact h
    | 34, _, _, h => exact h
    | 35, _, _, h => exact h
    | 36, _, _, h => exact h
    | 37, _, _, h => exact h
    | 38, _, _, h => exact h
    | q + 39, _, hq, _ => exact absurd hq (by omega)
  intro v u hu hs hap
  have s_33 : v 33 = _ := hs 33 (by decide) (by decide)
  have s_34 : v 34 = _ := hs 34 (by decide) (by decide)
  have s_35 : v 35 = _ := hs 35 (by decide) (by decide)
  have s_36 : v 36 = _ := hs 36 (by decide) (by decide)
  have s_37 : v 37 = _ := hs 37 (by decide) (by decide)
  have s_38 : v 38 = _ := hs 38 (by decide) (by decide)
  simp only [putAll, dstOf]
  replace HC := Lib.hid (HC.out.below hu)
  replace J0 := Lib.hid (J0.out.below hu)
  replace J1 := Lib.hid (J1.out.below hu)
  replace J2 := Lib.hid (J2.out.below hu)
  replace J3 := Lib.hid (J3.out.below hu)
  replace HBW := Lib.hid (HBW.out.trans ((hu).mono HBW.out.size))
  clear hs hap hu
  have y := HC.out
  have f0 := y.1
  have f1 := y.2.1
  have f2 := y.2.2.1
  have f3 := y.2.2.2.1
  have f4 := y.2.2.2.2.1
  have f5 := y.2.2.2.2.2.1
  have f6 := y.2.2.2.2.2.2.1
  have f7 := y.2.2.2.2.2.2.2.1
  have f8 := y.2.2.2.2.2.2.2.2.1
  have f9 := y.2.2.2.2.2.2.2.2.2.1
  have f10 := y.2.2.2.2.2.2.2.2.2.2.1
  have f11 := y.2.2.2.2.2.2.2.2.2.2.2.1
  have f12 := y.2.2.2.2.2.2.2.2.2.2.2.2.1
  have f13 := y.2.2.2.2.2.2.2.2.2.2.2.2.2.1
  have f14 := y.2.2.2.2.2.2.2.2.2.2.2.2.2.2.1
  have f15 := y.2.2.2.2.2.2.2.2.2.2.2.2.2.2.2.1
  have f16 := y.2.2.2.2.2.2.2.2.2.2.2.2.2.2.2.2.1
  have f17 := y.2.2.2.2.2.2.2.2.2.2.2.2.2.2.2.2.2.1
  have f18 := y.2.2.2.2.2.2.2.2.2.2.2.2.2.2.2.2.2.2.1
  have f19 := y.2.2.2.2.2.2.2.2.2.2.2.2.2.2.2.2.2.2.2.1
  have f20 := y.2.2.2.2.2.2.2.2.2.2.2.2.2.2.2.2.2.2.2.2.1
  have f21 := y.2.2.2.2.2.2.2.2.2.2.2.2.2.2.2.2.2.2.2.2.2.1
  clear y
  refine rest_lineL 39 50 [_, _, _, _, _, _, _, _, _, _, _] rfl (by kernel_rfl) (by decide) (by decide) (by kernel_rfl) ?_
  go_wp2_with (go_at_call 14
               refine (SAME.out _ _ _ _ _ J1.out J0.out).mono ?_
               rintro e1 w9 ⟨rfl, hb1⟩
               have HU := Lib.hid hb1
               clear f0 f1 f2 f3 f4 f5 f6 f7 f8 f9 f10 f11 f12 f13 f14 f15 f16 f17 f18 f19 f20 f21
               have y := HC.out.below hb1
               have f0 := y.1
               have f1 := y.2.1
               have f2 := y.2.2.1
               have f3 := y.2.2.2.1
               have f4 := y.2.2.2.2.1
               have f5 := y.2.2.2.2.2.1
               have f6 := y.2.2.2.2.2.2.1
               have f7 := y.2.2.2.2.2.2.2.1
               have f8 := y.2.2.2.2.2.2.2.2.1
               have f9 := y.2.2.2.2.2.2.2.2.2.1
               have f10 := y.2.2.2.2.2.2.2.2.2.2.1
               have f11 := y.2.2.2.2.2.2.2.2.2.2.2.1
               have f12 := y.2.2.2.2.2.2.2.2.2.2.2.2.1
               have f13 := y.2.2.2.2.2.2.2.2.2.2.2.2.2.1
               have f14 := y.2.2.2.2.2.2.2.2.2.2.2.2.2.2.1
               have f15 := y.2.2.2.2.2.2.2.2.2.2.2.2.2.2.2.1
               have f16 := y.2.2.2.2.2.2.2.2.2.2.2.2.2.2.2.2.1
               have f17 := y.2.2.2.2.2.2.2.2.2.2.2.2.2.2.2.2.2.1
               have f18 := y.2.2.2.2.2.2.2.2.2.2.2.2.2.2.2.2.2.2.1
               have f19 := y.2.2.2.2.2.2.2.2.2.2.2.2.2.2.2.2.2.2.2.1
               have f20 := y.2.2.2.2.2.2.2.2.2.2.2.2.2.2.2.2.2.2.2.2.1
               have f21 := y.2.2.2.2.2.2.2.2.2.2.2.2.2.2.2.2.2.2.2.2.2.1
               clear y
               clear hb1)
  replace HC := Lib.hid (HC.out.below HU.out)
  replace J0 := Lib.hid (J0.out.below HU.out)
  replace J1 := Lib.hid (J1.out.below HU.out)
  replace J2 := Lib.hid (J2.out.below HU.out)
  replace J3 := Lib.hid (J3.out.below HU.out)
  replace HBW := Lib.hid (HBW.out.trans ((HU.out).mono HBW.out.size))
  clear HU
  clear f0 f1 f2 f3 f4 f5 f6 f7 f8 f9 f10 f11 f12 f13 f14 f15 f16 f17 f18 f19 f20 f21
  clear s_33 s_34 s_35 s_36 s_37 s_38 v
  refine then_rest ?_
  refine rest_opsL 50 59 108 [_, _, _, _, _, _, _, _, _] (pk 50 [isV ?a4_50, isV ?a4_51, isV ?a4_52, isV ?a4_53, isV ?a4_54, isV ?a4_55, isV ?a4_56, isV ?a4_57, isV ?a4_58]) (fun _ _ => none) rfl (by kernel_rfl) (by kernel_rfl) rfl (.inr (by kernel_rfl)) ?hS4 ?hop4 ?_
  case hop4 =>
    refine hops_cons ?_ ?_
    · intro v u hu hs Q' hQ
      simp only [putAll, dstOf]
      clear hs
      go_wp2
      exact ⟨rfl, Below.refl _ _, by (show _ = _; rfl), fun _ h => nomatch h⟩
    refine hops_cons ?_ ?_
    · intro v u hu hs Q' hQ
      simp only [putAll, dstOf]
      have s_50 : v 50 = _ := hs 50 (by kernel_rfl) (by decide) (by decide)
      clear hs
      go_wp2
      exact ⟨rfl, Below.refl _ _, by (show _ = _; rfl), fun _ h => nomatch h⟩
    refine hops_cons ?_ ?_
    · intro v u hu hs Q' hQ
      simp only [putAll, dstOf]
      have s_50 : v 50 = _ := hs 50 (by kernel_rfl) (by decide) (by decide)
      have s_51 : v 51 = _ := hs 51 (by kernel_rfl) (by decide) (by decide)
      have y := HC.out.below hu
      have f0 := y.1
      have f1 := y.2.1
      have f2 := y.2.2.1
      have f3 := y.2.2.2.1
      have f4 := y.2.2.2.2.1
      have f5 := y.2.2.2.2.2.1
      have f6 := y.2.2.2.2.2.2.1
      have f7 := y.2.2.2.2.2.2.2.1
      have f8 := y.2.2.2.2.2.2.2.2.1
      have f9 := y.2.2.2.2.2.2.2.2.2.1
      have f10 := y.2.2.2.2.2.2.2.2.2.2.1
      have f11 := y.2.2.2.2.2.2.2.2.2.2.2.1
      have f12 := y.2.2.2.2.2.2.2.2.2.2.2.2.1
      have f13 := y.2.2.2.2.2.2.2.2.2.2.2.2.2.1
      have f14 := y.2.2.2.2.2.2.2.2.2.2.2.2.2.2.1
      have f15 := y.2.2.2.2.2.2.2.2.2.2.2.2.2.2.2.1
      have f16 := y.2.2.2.2.2.2.2.2.2.2.2.2.2.2.2.2.1
      have f17 := y.2.2.2.2.2.2.2.2.2.2.2.2.2.2.2.2.2.1
      have f18 := y.2.2.2.2.2.2.2.2.2.2.2.2.2.2.2.2.2.2.1
      have f19 := y.2.2.2.2.2.2.2.2.2.2.2.2.2.2.2.2.2.2.2.1
      have f20 := y.2.2.2.2.2.2.2.2.2.2.2.2.2.2.2.2.2.2.2.2.1
      have f21 := y.2.2.2.2.2.2.2.2.2.2.2.2.2.2.2.2.2.2.2.2.2.1
      clear y
      clear hs
      go_wp2
      exact ⟨rfl, Below.refl _ _, by (show _ = _; rfl), fun _ h => nomatch h⟩
    refine hops_cons ?_ ?_
    · intro v u hu hs Q' hQ
      simp only [putAll, dstOf]
      have s_50 : v 50 = _ := hs 50 (by kernel_rfl) (by decide) (by decide)
      have s_52 : v 52 = _ := hs 52 (by kernel_rfl) (by decide) (by decide)
      clear hs
      go_wp2
      exact ⟨rfl, Below.refl _ _, by (show _ = _; rfl), fun _ h => nomatch h⟩
    refine hops_cons ?_ ?_
    · intro v u hu hs Q' hQ
      simp only [putAll, dstOf]
      have s_50 : v 50 = _ := hs 50 (by kernel_rfl) (by decide) (by decide)
      have s_53 : v 53 = _ := hs 53 (by kernel_rfl) (by decide) (by decide)
      clear hs
      go_wp2
      exact ⟨rfl, Below.refl _ _, by (show _ = _; rfl), fun _ h => nomatch h⟩
    refine hops_cons ?_ ?_
    · intro v u hu hs Q' hQ
      simp only [putAll, dstOf]
      have s_50 : v 50 = _ := hs 50 (by kernel_rfl) (by decide) (by decide)
      have s_54 : v 54 = _ := hs 54 (by kernel_rfl) (by decide) (by decide)
      have y := HC.out.below hu
      have f0 := y.1
      have f1 := y.2.1
      have f2 := y.2.2.1
      have f3 := y.2.2.2.1
      have f4 := y.2.2.2.2.1
      have f5 := y.2.2.2.2.2.1
      have f6 := y.2.2.2.2.2.2.1
      have f7 := y.2.2.2.2.2.2.2.1
      have f8 := y.2.2.2.2.2.2.2.2.1
      have f9 := y.2.2.2.2.2.2.2.2.2.1
      have f10 := y.2.2.2.2.2.2.2.2.2.2.1
      have f11 := y.2.2.2.2.2.2.2.2.2.2.2.1
      have f12 := y.2.2.2.2.2.2.2.2.2.2.2.2.1
      have f13 := y.2.2.2.2.2.2.2.2.2.2.2.2.2.1
      have f14 := y.2.2.2.2.2.2.2.2.2.2.2.2.2.2.1
      have f15 := y.2.2.2.2.2.2.2.2.2.2.2.2.2.2.2.1
      have f16 := y.2.2.2.2.2.2.2.2.2.2.2.2.2.2.2.2.1
      have f17 := y.2.2.2.2.2.2.2.2.2.2.2.2.2.2.2.2.2.1
      have f18 := y.2.2.2.2.2.2.2.2.2.2.2.2.2.2.2.2.2.2.1
      have f19 := y.2.2.2.2.2.2.2.2.2.2.2.2.2.2.2.2.2.2.2.1
      have f20 := y.2.2.2.2.2.2.2.2.2.2.2.2.2.2.2.2.2.2.2.2.1
      have f21 := y.2.2.2.2.2.2.2.2.2.2.2.2.2.2.2.2.2.2.2.2.2.1
      clear y
      clear hs
      go_wp2
      exact ⟨rfl, Below.refl _ _, by (show _ = _; rfl), fun _ h => nomatch h⟩
    refine hops_cons ?_ ?_
    · intro v u hu hs Q' hQ
      simp only [putAll, dstOf]
      have s_50 : v 50 = _ := hs 50 (by kernel_rfl) (by decide) (by decide)
      have s_55 : v 55 = _ := hs 55 (by kernel_rfl) (by decide) (by decide)
      clear hs
      go_wp2
      exact ⟨rfl, Below.refl _ _, by (show _ = _; rfl), fun _ h => nomatch h⟩
    refine hops_cons ?_ ?_
    · intro v u hu hs Q' hQ
      simp only [putAll, dstOf]
      have s_50 : v 50 = _ := hs 50 (by kernel_rfl) (by decide) (by decide)
      have s_56 : v 56 = _ := hs 56 (by kernel_rfl) (by decide) (by decide)
      have y := HC.out.below hu
      have f0 := y.1
      have f1 := y.2.1
      have f2 := y.2.2.1
      have f3 := y.2.2.2.1
      have f4 := y.2.2.2.2.1
      have f5 := y.2.2.2.2.2.1
      have f6 := y.2.2.2.2.2.2.1
      have f7 := y.2.2.2.2.2.2.2.1
      have f8 := y.2.2.2.2.2.2.2.2.1
      have f9 := y.2.2.2.2.2.2.2.2.2.1
      have f10 := y.2.2.2.2.2.2.2.2.2.2.1
      have f11 := y.2.2.2.2.2.2.2.2.2.2.2.1
      have f12 := y.2.2.2.2.2.2.2.2.2.2.2.2.1
      have f13 := y.2.2.2.2.2.2.2.2.2.2.2.2.2.1
      have f14 := y.2.2.2.2.2.2.2.2.2.2.2.2.2.2.1
      have f15 := y.2.2.2.2.2.2.2.2.2.2.2.2.2.2.2.1
      have f16 := y.2.2.2.2.2.2.2.2.2.2.2.2.2.2.2.2.1
      have f17 := y.2.2.2.2.2.2.2.2.2.2.2.2.2.2.2.2.2.1
      have f18 := y.2.2.2.2.2.2.2.2.2.2.2.2.2.2.2.2.2.2.1
      have f19 := y.2.2.2.2.2.2.2.2.2.2.2.2.2.2.2.2.2.2.2.1
      have f20 := y.2.2.2.2.2.2.2.2.2.2.2.2.2.2.2.2.2.2.2.2.1
      have f21 := y.2.2.2.2.2.2.2.2.2.2.2.2.2.2.2.2.2.2.2.2.2.1
      clear y
      clear hs
      go_wp2
      exact ⟨rfl, Below.refl _ _, by (show _ = _; rfl), fun _ h => nomatch h⟩
    refine hops_cons ?_ ?_
    · intro v u hu hs Q' hQ
      simp only [putAll, dstOf]
      have s_50 : v 50 = _ := hs 50 (by kernel_rfl) (by decide) (by decide)
      have y := HC.out.below hu
      have f0 := y.1
      have f1 := y.2.1
      have f2 := y.2.2.1
      have f3 := y.2.2.2.1
      have f4 := y.2.2.2.2.1
      have f5 := y.2.2.2.2.2.1
      have f6 := y.2.2.2.2.2.2.1
      have f7 := y.2.2.2.2.2.2.2.1
      have f8 := y.2.2.2.2.2.2.2.2.1
      have f9 := y.2.2.2.2.2.2.2.2.2.1
      have f10 := y.2.2.2.2.2.2.2.2.2.2.1
      have f11 := y.2.2.2.2.2.2.2.2.2.2.2.1
      have f12 := y.2.2.2.2.2.2.2.2.2.2.2.2.1
      have f13 := y.2.2.2.2.2.2.2.2.2.2.2.2.2.1
      have f14 := y.2.2.2.2.2.2.2.2.2.2.2.2.2.2.1
      have f15 := y.2.2.2.2.2.2.2.2.2.2.2.2.2.2.2.1
      have f16 := y.2.2.2.2.2.2.2.2.2.2.2.2.2.2.2.2.1
      have f17 := y.2.2.2.2.2.2.2.2.2.2.2.2.2.2.2.2.2.1
      have f18 := y.2.2.2.2.2.2.2.2.2.2.2.2.2.2.2.2.2.2.1
      have f19 := y.2.2.2.2.2.2.2.2.2.2.2.2.2.2.2.2.2.2.2.1
      have f20 := y.2.2.2.2.2.2.2.2.2.2.2.2.2.2.2.2.2.2.2.2.1
      have f21 := y.2.2.2.2.2.2.2.2.2.2.2.2.2.2.2.2.2.2.2.2.2.1
      clear y
      clear hs
      go_wp2
      exact ⟨rfl, Below.refl _ _, by (show _ = _; rfl), fun _ h => nomatch h⟩
    exact hops_nil
  case hS4 =>
    intro j v u u' hkj hjn h hb
    match j, hkj, hjn, h with
    | 50, _, _, h => exact h
    | 51, _, _, h => exact h
    | 52, _, _, h => exact h
    | 53, _, _, h => exact h
    | 54, _, _, h => exact h
    | 55, _, _, h => exact h
    | 56, _, _, h => exact h
    | 57, _, _, h => exact h
    | 58, _, _, h => exact h
    | q + 59, _, hq, _ => exact absurd hq (by omega)
  intro v u hu hs hap
  have s_50 : v 50 = _ := hs 50 (by decide) (by decide)
  have s_51 : v 51 = _ := hs 51 (by decide) (by decide)
  have s_52 : v 52 = _ := hs 52 (by decide) (by decide)
  have s_53 : v 53 = _ := hs 53 (by decide) (by decide)
  have s_54 : v 54 = _ := hs 54 (by decide) (by decide)
  have s_55 : v 55 = _ := hs 55 (by decide) (by decide)
  have s_56 : v 56 = _ := hs 56 (by decide) (by decide)
  have s_57 : v 57 = _ := hs 57 (by decide) (by decide)
  have s_58 : v 58 = _ := hs 58 (by decide) (by decide)
  simp only [putAll, dstOf]
  replace HC := Lib.hid (HC.out.below hu)
  replace J0 := Lib.hid (J0.out.below hu)
  replace J1 := Lib.hid (J1.out.below hu)
  replace J2 := Lib.hid (J2.out.below hu)
  replace J3 := Lib.hid (J3.out.below hu)
  replace HBW := Lib.hid (HBW.out.trans ((hu).mono HBW.out.size))
  clear hs hap hu
  have y := HC.out
  have f0 := y.1
  have f1 := y.2.1
  have f2 := y.2.2.1
  have f3 := y.2.2.2.1
  have f4 := y.2.2.2.2.1
  have f5 := y.2.2.2.2.2.1
  have f6 := y.2.2.2.2.2.2.1
  have f7 := y.2.2.2.2.2.2.2.1
  have f8 := y.2.2.2.2.2.2.2.2.1
  have f9 := y.2.2.2.2.2.2.2.2.2.1
  have f10 := y.2.2.2.2.2.2.2.2.2.2.1
  have f11 := y.2.2.2.2.2.2.2.2.2.2.2.1
  have f12 := y.2.2.2.2.2.2.2.2.2.2.2.2.1
  have f13 := y.2.2.2.2.2.2.2.2.2.2.2.2.2.1
  have f14 := y.2.2.2.2.2.2.2.2.2.2.2.2.2.2.1
  have f15 := y.2.2.2.2.2.2.2.2.2.2.2.2.2.2.2.1
  have f16 := y.2.2.2.2.2.2.2.2.2.2.2.2.2.2.2.2.1
  have f17 := y.2.2.2.2.2.2.2.2.2.2.2.2.2.2.2.2.2.1
  have f18 := y.2.2.2.2.2.2.2.2.2.2.2.2.2.2.2.2.2.2.1
  have f19 := y.2.2.2.2.2.2.2.2.2.2.2.2.2.2.2.2.2.2.2.1
  have f20 := y.2.2.2.2.2.2.2.2.2.2.2.2.2.2.2.2.2.2.2.2.1
  have f21 := y.2.2.2.2.2.2.2.2.2.2.2.2.2.2.2.2.2.2.2.2.2.1
  clear y
  refine rest_lineL 59 67 [_, _, _, _, _, _, _, _] rfl (by kernel_rfl) (by decide) (by decide) (by kernel_rfl) ?_
  go_wp2_with (go_at_call 14
               refine (SAME.out _ _ _ _ _ J2.out J0.out).mono ?_
               rintro e1 w9 ⟨rfl, hb1⟩
               have HU := Lib.hid hb1
               clear f0 f1 f2 f3 f4 f5 f6 f7 f8 f9 f10 f11 f12 f13 f14 f15 f16 f17 f18 f19 f20 f21
               have y := HC.out.below hb1
               have f0 := y.1
               have f1 := y.2.1
               have f2 := y.2.2.1
               have f3 := y.2.2.2.1
               have f4 := y.2.2.2.2.1
               have f5 := y.2.2.2.2.2.1
               have f6 := y.2.2.2.2.2.2.1
               have f7 := y.2.2.2.2.2.2.2.1
               have f8 := y.2.2.2.2.2.2.2.2.1
               have f9 := y.2.2.2.2.2.2.2.2.2.1
               have f10 := y.2.2.2.2.2.2.2.2.2.2.1
               have f11 := y.2.2.2.2.2.2.2.2.2.2.2.1
               have f12 := y.2.2.2.2.2.2.2.2.2.2.2.2.1
               have f13 := y.2.2.2.2.2.2.2.2.2.2.2.2.2.1
               have f14 := y.2.2.2.2.2.2.2.2.2.2.2.2.2.2.1
               have f15 := y.2.2.2.2.2.2.2.2.2.2.2.2.2.2.2.1
               have f16 := y.2.2.2.2.2.2.2.2.2.2.2.2.2.2.2.2.1
               have f17 := y.2.2.2.2.2.2.2.2.2.2.2.2.2.2.2.2.2.1
               have f18 := y.2.2.2.2.2.2.2.2.2.2.2.2.2.2.2.2.2.2.1
               have f19 := y.2.2.2.2.2.2.2.2.2.2.2.2.2.2.2.2.2.2.2.1
               have f20 := y.2.2.2.2.2.2.2.2.2.2.2.2.2.2.2.2.2.2.2.2.1
               have f21 := y.2.2.2.2.2.2.2.2.2.2.2.2.2.2.2.2.2.2.2.2.2.1
               clear y
               clear hb1)
  replace HC := Lib.hid (HC.out.below HU.out)
  replace J0 := Lib.hid (J0.out.below HU.out)
  replace J1 := Lib.hid (J1.out.below HU.out)
  replace J2 := Lib.hid (J2.out.below HU.out)
  replace J3 := Lib.hid (J3.out.below HU.out)
  replace HBW := Lib.hid (HBW.out.trans ((HU.out).mono HBW.out.size))
  clear HU
  clear f0 f1 f2 f3 f4 f5 f6 f7 f8 f9 f10 f11 f12 f13 f14 f15 f16 f17 f18 f19 f20 f21
  clear s_50 s_51 s_52 s_53 s_54 s_55 s_56 s_57 s_58 v
  refine then_rest ?_
  refine rest_opsL 67 73 108 [_, _, _, _, _, _] (pk 67 [isV ?a5_67, isV ?a5_68, isV ?a5_69, isV ?a5_70, isV ?a5_71, isV ?a5_72]) (fun _ _ => none) rfl (by kernel_rfl) (by kernel_rfl) rfl (.inr (by kernel_rfl)) ?hS5 ?hop5 ?_
  case hop5 =>
    refine hops_cons ?_ ?_
    · intro v u hu hs Q' hQ
      simp only [putAll, dstOf]
      clear hs
      go_wp2
      exact ⟨rfl, Below.refl _ _, by (show _ = _; rfl), fun _ h => nomatch h⟩
    refine hops_cons ?_ ?_
    · intro v u hu hs Q' hQ
      simp only [putAll, dstOf]
      have s_67 : v 67 = _ := hs 67 (by kernel_rfl) (by decide) (by decide)
      clear hs
      go_wp2
      exact ⟨rfl, Below.refl _ _, by (show _ = _; rfl), fun _ h => nomatch h⟩
    refine hops_cons ?_ ?_
    · intro v u hu hs Q' hQ
      simp only [putAll, dstOf]
      have s_67 : v 67 = _ := hs 67 (by kernel_rfl) (by decide) (by decide)
      have s_68 : v 68 = _ := hs 68 (by kernel_rfl) (by decide) (by decide)
      have y := HC.out.below hu
      have f0 := y.1
      have f1 := y.2.1
      have f2 := y.2.2.1
      have f3 := y.2.2.2.1
      have f4 := y.2.2.2.2.1
      have f5 := y.2.2.2.2.2.1
      have f6 := y.2.2.2.2.2.2.1
      have f7 := y.2.2.2.2.2.2.2.1
      have f8 := y.2.2.2.2.2.2.2.2.1
      have f9 := y.2.2.2.2.2.2.2.2.2.1
      have f10 := y.2.2.2.2.2.2.2.2.2.2.1
      have f11 := y.2.2.2.2.2.2.2.2.2.2.2.1
      have f12 := y.2.2.2.2.2.2.2.2.2.2.2.2.1
      have f13 := y.2.2.2.2.2.2.2.2.2.2.2.2.2.1
      have f14 := y.2.2.2.2.2.2.2.2.2.2.2.2.2.2.1
      have f15 := y.2.2.2.2.2.2.2.2.2.2.2.2.2.2.2.1
      have f16 := y.2.2.2.2.2.2.2.2.2.2.2.2.2.2.2.2.1
      have f17 := y.2.2.2.2.2.2.2.2.2.2.2.2.2.2.2.2.2.1
      have f18 := y.2.2.2.2.2.2.2.2.2.2.2.2.2.2.2.2.2.2.1
      have f19 := y.2.2.2.2.2.2.2.2.2.2.2.2.2.2.2.2.2.2.2.1
      have f20 := y.2.2.2.2.2.2.2.2.2.2.2.2.2.2.2.2.2.2.2.2.1
      have f21 := y.2.2.2.2.2.2.2.2.2.2.2.2.2.2.2.2.2.2.2.2.2.1
      clear y
      clear hs
      go_wp2
      exact ⟨rfl, Below.refl _ _, by (show _ = _; rfl), fun _ h => nomatch h⟩
    refine hops_cons ?_ ?_
    · intro v u hu hs Q' hQ
      simp only [putAll, dstOf]
      have s_67 : v 67 = _ := hs 67 (by kernel_rfl) (by decide) (by decide)
      have s_69 : v 69 = _ := hs 69 (by kernel_rfl) (by decide) (by decide)
      clear hs
      go_wp2
      exact ⟨rfl, Below.refl _ _, by (show _ = _; rfl), fun _ h => nomatch h⟩
    refine hops_cons ?_ ?_
    · intro v u hu hs Q' hQ
      simp only [putAll, dstOf]
      have s_67 : v 67 = _ := hs 67 (by kernel_rfl) (by decide) (by decide)
      have s_70 : v 70 = _ := hs 70 (by kernel_rfl) (by decide) (by decide)
      have y := HC.out.below hu
      have f0 := y.1
      have f1 := y.2.1
      have f2 := y.2.2.1
      have f3 := y.2.2.2.1
      have f4 := y.2.2.2.2.1
      have f5 := y.2.2.2.2.2.1
      have f6 := y.2.2.2.2.2.2.1
      have f7 := y.2.2.2.2.2.2.2.1
      have f8 := y.2.2.2.2.2.2.2.2.1
      have f9 := y.2.2.2.2.2.2.2.2.2.1
      have f10 := y.2.2.2.2.2.2.2.2.2.2.1
      have f11 := y.2.2.2.2.2.2.2.2.2.2.2.1
      have f12 := y.2.2.2.2.2.2.2.2.2.2.2.2.1
      have f13 := y.2.2.2.2.2.2.2.2.2.2.2.2.2.1
      have f14 := y.2.2.2.2.2.2.2.2.2.2.2.2.2.2.1
      have f15 := y.2.2.2.2.2.2.2.2.2.2.2.2.2.2.2.1
      have f16 := y.2.2.2.2.2.2.2.2.2.2.2.2.2.2.2.2.1
      have f17 := y.2.2.2.2.2.2.2.2.2.2.2.2.2.2.2.2.2.1
      have f18 := y.2.2.2.2.2.2.2.2.2.2.2.2.2.2.2.2.2.2.1
      have f19 := y.2.2.2.2.2.2.2.2.2.2.2.2.2.2.2.2.2.2.2.1
      have f20 := y.2.2.2.2.2.2.2.2.2.2.2.2.2.2.2.2.2.2.2.2.1
      have f21 := y.2.2.2.2.2.2.2.2.2.2.2.2.2.2.2.2.2.2.2.2.2.1
      clear y
      clear hs
      go_wp2
      exact ⟨rfl, Below.refl _ _, by (show _ = _; rfl), fun _ h => nomatch h⟩
    refine hops_cons ?_ ?_
    · intro v u hu hs Q' hQ
      simp only [putAll, dstOf]
      have s_67 : v 67 = _ := hs 67 (by kernel_rfl) (by decide) (by decide)
      have y := HC.out.below hu
      have f0 := y.1
      have f1 := y.2.1
      have f2 := y.2.2.1
      have f3 := y.2.2.2.1
      have f4 := y.2.2.2.2.1
      have f5 := y.2.2.2.2.2.1
      have f6 := y.2.2.2.2.2.2.1
      have f7 := y.2.2.2.2.2.2.2.1
      have f8 := y.2.2.2.2.2.2.2.2.1
      have f9 := y.2.2.2.2.2.2.2.2.2.1
      have f10 := y.2.2.2.2.2.2.2.2.2.2.1
      have f11 := y.2.2.2.2.2.2.2.2.2.2.2.1
      have f12 := y.2.2.2.2.2.2.2.2.2.2.2.2.1
      have f13 := y.2.2.2.2.2.2.2.2.2.2.2.2.2.1
      have f14 := y.2.2.2.2.2.2.2.2.2.2.2.2.2.2.1
      have f15 := y.2.2.2.2.2.2.2.2.2.2.2.2.2.2.2.1
      have f16 := y.2.2.2.2.2.2.2.2.2.2.2.2.2.2.2.2.1
      have f17 := y.2.2.2.2.2.2.2.2.2.2.2.2.2.2.2.2.2.1
      have f18 := y.2.2.2.2.2.2.2.2.2.2.2.2.2.2.2.2.2.2.1
      have f19 := y.2.2.2.2.2.2.2.2.2.2.2.2.2.2.2.2.2.2.2.1
      have f20 := y.2.2.2.2.2.2.2.2.2.2.2.2.2.2.2.2.2.2.2.2.1
      have f21 := y.2.2.2.2.2.2.2.2.2.2.2.2.2.2.2.2.2.2.2.2.2.1
      clear y
      clear hs
      go_wp2
      exact ⟨rfl, Below.refl _ _, by (show _ = _; rfl), fun _ h => nomatch h⟩
    exact hops_nil
  case hS5 =>
    intro j v u u' hkj hjn h hb
    match j, hkj, hjn, h with
    | 67, _, _, h => exact h
    | 68, _, _, h => exact h
    | 69, _, _, h => exact h
    | 70, _, _, h => exact h
    | 71, _, _, h => exact h
    | 72, _, _, h => exact h
    | q + 73, _, hq, _ => exact absurd hq (by omega)
  intro v u hu hs hap
  have s_67 : v 67 = _ := hs 67 (by decide) (by decide)
  have s_68 : v 68 = _ := hs 68 (by decide) (by decide)
  have s_69 : v 69 = _ := hs 69 (by decide) (by decide)
  have s_70 : v 70 = _ := hs 70 (by decide) (by decide)
  have s_71 : v 71 = _ := hs 71 (by decide) (by decide)
  have s_72 : v 72 = _ := hs 72 (by decide) (by decide)
  simp only [putAll, dstOf]
  replace HC := Lib.hid (HC.out.below hu)
  replace J0 := Lib.hid (J0.out.below hu)
  replace J1 := Lib.hid (J1.out.below hu)
  replace J2 := Lib.hid (J2.out.below hu)
  replace J3 := Lib.hid (J3.out.below hu)
  replace HBW := Lib.hid (HBW.out.trans ((hu).mono HBW.out.size))
  clear hs hap hu
  have y := HC.out
  have f0 := y.1
  have f1 := y.2.1
  have f2 := y.2.2.1
  have f3 := y.2.2.2.1
  have f4 := y.2.2.2.2.1
  have f5 := y.2.2.2.2.2.1
  have f6 := y.2.2.2.2.2.2.1
  have f7 := y.2.2.2.2.2.2.2.1
  have f8 := y.2.2.2.2.2.2.2.2.1
  have f9 := y.2.2.2.2.2.2.2.2.2.1
  have f10 := y.2.2.2.2.2.2.2.2.2.2.1
  have f11 := y.2.2.2.2.2.2.2.2.2.2.2.1
  have f12 := y.2.2.2.2.2.2.2.2.2.2.2.2.1
  have f13 := y.2.2.2.2.2.2.2.2.2.2.2.2.2.1
  have f14 := y.2.2.2.2.2.2.2.2.2.2.2.2.2.2.1
  have f15 := y.2.2.2.2.2.2.2.2.2.2.2.2.2.2.2.1
  have f16 := y.2.2.2.2.2.2.2.2.2.2.2.2.2.2.2.2.1
  have f17 := y.2.2.2.2.2.2.2.2.2.2.2.2.2.2.2.2.2.1
  have f18 := y.2.2.2.2.2.2.2.2.2.2.2.2.2.2.2.2.2.2.1
  have f19 := y.2.2.2.2.2.2.2.2.2.2.2.2.2.2.2.2.2.2.2.1
  have f20 := y.2.2.2.2.2.2.2.2.2.2.2.2.2.2.2.2.2.2.2.2.1
  have f21 := y.2.2.2.2.2.2.2.2.2.2.2.2.2.2.2.2.2.2.2.2.2.1
  clear y
  refine rest_lineL 73 84 [_, _, _, _, _, _, _, _, _, _, _] rfl (by kernel_rfl) (by decide) (by decide) (by kernel_rfl) ?_
  go_wp2_with (go_at_call 14
               refine (SAME.out _ _ _ _ _ J3.out J0.out).mono ?_
               rintro e1 w9 ⟨rfl, hb1⟩
               have HU := Lib.hid hb1
               clear f0 f1 f2 f3 f4 f5 f6 f7 f8 f9 f10 f11 f12 f13 f14 f15 f16 f17 f18 f19 f20 f21
               have y := HC.out.below hb1
               have f0 := y.1
               have f1 := y.2.1
               have f2 := y.2.2.1
               have f3 := y.2.2.2.1
               have f4 := y.2.2.2.2.1
               have f5 := y.2.2.2.2.2.1
               have f6 := y.2.2.2.2.2.2.1
               have f7 := y.2.2.2.2.2.2.2.1
               have f8 := y.2.2.2.2.2.2.2.2.1
               have f9 := y.2.2.2.2.2.2.2.2.2.1
               have f10 := y.2.2.2.2.2.2.2.2.2.2.1
               have f11 := y.2.2.2.2.2.2.2.2.2.2.2.1
               have f12 := y.2.2.2.2.2.2.2.2.2.2.2.2.1
               have f13 := y.2.2.2.2.2.2.2.2.2.2.2.2.2.1
               have f14 := y.2.2.2.2.2.2.2.2.2.2.2.2.2.2.1
               have f15 := y.2.2.2.2.2.2.2.2.2.2.2.2.2.2.2.1
               have f16 := y.2.2.2.2.2.2.2.2.2.2.2.2.2.2.2.2.1
               have f17 := y.2.2.2.2.2.2.2.2.2.2.2.2.2.2.2.2.2.1
               have f18 := y.2.2.2.2.2.2.2.2.2.2.2.2.2.2.2.2.2.2.1
               have f19 := y.2.2.2.2.2.2.2.2.2.2.2.2.2.2.2.2.2.2.2.1
               have f20 := y.2.2.2.2.2.2.2.2.2.2.2.2.2.2.2.2.2.2.2.2.1
               have f21 := y.2.2.2.2.2.2.2.2.2.2.2.2.2.2.2.2.2.2.2.2.2.1
               clear y
               clear hb1)
  replace HC := Lib.hid (HC.out.below HU.out)
  replace J0 := Lib.hid (J0.out.below HU.out)
  replace J1 := Lib.hid (J1.out.below HU.out)
  replace J2 := Lib.hid (J2.out.below HU.out)
  replace J3 := Lib.hid (J3.out.below HU.out)
  replace HBW := Lib.hid (HBW.out.trans ((HU.out).mono HBW.out.size))
  clear HU
  clear f0 f1 f2 f3 f4 f5 f6 f7 f8 f9 f10 f11 f12 f13 f14 f15 f16 f17 f18 f19 f20 f21
  clear s_67 s_68 s_69 s_70 s_71 s_72 v
  refine then_rest (rest_end (by decide) ?_)
  go_wp2
  go_ret
  exact ⟨rfl, HBW.out⟩
end Go.Proofs.Ytlndoogiflcoeaa.Tms
