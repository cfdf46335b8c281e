
/-
  Layer 19: CompCompiles, walked over the program (printed by gen_l9c.py).
-/
import Derived.Test.YtibjcfbilkkmkaaRbk
import Derived.Test.YtibjcfbilkkmkaaAl9
import Derived.LoopN
namespace Go.Proofs.Ytibjcfbilkkmkaa.Tms
open Go Go.RowKit Go.Proofs.Ytibjcfbilkkmkaa.Reg Go.Proofs.Ytibjcfbilkkmkaa.Maps Go.Proofs.Ytibjcfbilkkmkaa.Rws Go.Proofs.Ytibjcfbilkkmkaa.Cod
set_option linter.unusedVariables false
set_option linter.unusedSimpArgs false

theorem row8 {w : World} {g : Nat} {y0 y1 y2 y3 y4 y5 y6 y7 : Value} {T : TypeId} {fr : Nat × Nat} (h : w.heap[g]? = some (.cells #[y0, y1, y2, y3, y4, y5, y6, y7] T fr)) :
    w.cell? ⟨g, 0, none⟩ = some y0 ∧ w.cell? ⟨g, 1, none⟩ = some y1 ∧ w.cell? ⟨g, 2, none⟩ = some y2 ∧ w.cell? ⟨g, 3, none⟩ = some y3 ∧ w.cell? ⟨g, 4, none⟩ = some y4 ∧ w.cell? ⟨g, 5, none⟩ = some y5 ∧ w.cell? ⟨g, 6, none⟩ = some y6 ∧ w.cell? ⟨g, 7, none⟩ = some y7 :=
  ⟨by simpa using cell_of_row w g 0 _ T fr h, by simpa using cell_of_row w g 1 _ T fr h, by simpa using cell_of_row w g 2 _ T fr h, by simpa using cell_of_row w g 3 _ T fr h, by simpa using cell_of_row w g 4 _ T fr h, by simpa using cell_of_row w g 5 _ T fr h, by simpa using cell_of_row w g 6 _ T fr h, by simpa using cell_of_row w g 7 _ T fr h⟩
def Arr2 (u : World) (v : Value) (a b : Tm) : Prop := ∃ (q0 q1 : Option Addr) (c0 c1 : Nat), v = .agg #[.int .i64 a.k, .int .i64 a.n, .string a.s, .slice q0 a.args.length c0, .int .i64 b.k, .int .i64 b.n, .string b.s, .slice q1 b.args.length c1] ∧ IsTm u AnyB (.agg #[.int .i64 a.k, .int .i64 a.n, .string a.s, .slice q0 a.args.length c0]) a ∧ IsTm u AnyB (.agg #[.int .i64 b.k, .int .i64 b.n, .string b.s, .slice q1 b.args.length c1]) b
theorem Arr2.below {u u' : World} {v : Value} {a b : Tm} (h : Arr2 u v a b) (hb : Below u.heap.size u u') : Arr2 u' v a b := by
  obtain ⟨q0, q1, c0, c1, e, h0, h1⟩ := h
  exact ⟨q0, q1, c0, c1, e, h0.below hb, h1.below hb⟩
def Arr22 (u : World) (v : Value) (a b c d : Tm) : Prop := ∃ (q0 q1 q2 q3 : Option Addr) (c0 c1 c2 c3 : Nat), v = .agg #[.int .i64 a.k, .int .i64 a.n, .string a.s, .slice q0 a.args.length c0, .int .i64 b.k, .int .i64 b.n, .string b.s, .slice q1 b.args.length c1, .int .i64 c.k, .int .i64 c.n, .string c.s, .slice q2 c.args.length c2, .int .i64 d.k, .int .i64 d.n, .string d.s, .slice q3 d.args.length c3] ∧ IsTm u AnyB (.agg #[.int .i64 a.k, .int .i64 a.n, .string a.s, .slice q0 a.args.length c0]) a ∧ IsTm u AnyB (.agg #[.int .i64 b.k, .int .i64 b.n, .string b.s, .slice q1 b.args.length c1]) b ∧ IsTm u AnyB (.agg #[.int .i64 c.k, .int .i64 c.n, .string c.s, .slice q2 c.args.length c2]) c ∧ IsTm u AnyB (.agg #[.int .i64 d.k, .int .i64 d.n, .string d.s, .slice q3 d.args.length c3]) d
theorem Arr22.below {u u' : World} {v : Value} {a b c d : Tm} (h : Arr22 u v a b c d) (hb : Below u.heap.size u u') : Arr22 u' v a b c d := by
  obtain ⟨q0, q1, q2, q3, c0, c1, c2, c3, e, h0, h1, h2, h3⟩ := h
  exact ⟨q0, q1, q2, q3, c0, c1, c2, c3, e, h0.below hb, h1.below hb, h2.below hb, h3.below hb⟩
theorem ix22_0 (x0 x1 x2 x3 x4 x5 x6 x7 x8 x9 x10 x11 x12 x13 x14 x15 : Value) (w : World) : (Instr.index 35 (.agg #[x0, x1, x2, x3, x4, x5, x6, x7, x8, x9, x10, x11, x12, x13, x14, x15]) (.int .i64 0)).run Try.prog w = .ok (.agg #[x0, x1, x2, x3, x4, x5, x6, x7]) w := by kernel_rfl
theorem ix22_1 (x0 x1 x2 x3 x4 x5 x6 x7 x8 x9 x10 x11 x12 x13 x14 x15 : Value) (w : World) : (Instr.index 35 (.agg #[x0, x1, x2, x3, x4, x5, x6, x7, x8, x9, x10, x11, x12, x13, x14, x15]) (.int .i64 1)).run Try.prog w = .ok (.agg #[x8, x9, x10, x11, x12, x13, x14, x15]) w := by kernel_rfl
theorem ref_mend9 (t : Tm) (v : Value) (w : World) (hM : t.size ≤ 1000000000) (h : IsTm w AnyB v t) : Calls Try.prog 10 #[v] w (fun e w' => ∃ v', e = .returned v' ∧ IsTm w' AnyB v' (mendT t) ∧ Below w.heap.size w w') :=
  (ref_mend _ t v _ w (Nat.le_refl _) hM h).mono fun e w' ⟨v', he, hi, hb⟩ => ⟨v', he, hi.any, hb⟩
theorem compE_len (h b : Tm) (h1 : h.size ≤ 1000) (h2 : b.size ≤ 1000) : (compE h b).1.l.length ≤ 1000000 := by
  unfold compE
  split
  · simp [zeroCod]
  split
  · simp [zeroCod]
  split
  · simp [zeroCod]
  split
  · simp [zeroCod]
  have e1 := patL_len (oneB (occT h ++ occT b)) h.args []
  have e2 := patT_len (oneB (occT h ++ occT b)) b (patL (oneB (occT h ++ occT b)) [] h.args).2
  have e3 : sizeL h.args + 1 = h.size := by obtain ⟨k, n, s, a⟩ := h; simp [Tm.size, Tm.args]
  simp only [compC, List.length_append]
  omega
theorem back_size (c : Cod) : (backE c).1.size ≤ 30000 ∧ (backE c).2.1.size ≤ 30000 := by
  have hz : (Tm.mk 0 0 ⟨#[]⟩ []).size ≤ 30000 := by simp [Tm.size, sizeL]
  unfold backE
  split
  · exact ⟨hz, hz⟩
  rename_i hk
  split
  · exact ⟨hz, hz⟩
  obtain ⟨A, j, s, hok⟩ := check_facts (by simpa using hk)
  have hl := hok.len
  have ha := hok.all
  have h1 := (take_size c.l.length).2 c.args.toNat c.l c.slots A hok.sk (by omega)
  have hr := (take_rest c.l.length).2 c.args.toNat c.l c.slots A hok.sk (by omega)
  have h2 := (take_size c.l.length).1 (c.l.drop A) (bkA c).2.2 j hok.rest (by omega)
  refine ⟨?_, ?_⟩
  · show (bkH c).size ≤ _
    unfold bkH
    split
    · simp only [compT, Tm.size]
      have : sizeL (bkA c).1 ≤ A := h1
      omega
    · simp [atomT, Tm.size, sizeL]
  · show (bkB c).size ≤ _
    unfold bkB
    have e : (bkA c).2.1 = c.l.drop A := hr
    rw [e]
    omega
theorem sameT_me9 : ∀ t : Tm, sameT t t = true := by
  have key : ∀ N, ∀ t : Tm, t.size ≤ N → sameT t t = true := by
    intro N
    induction N with
    | zero => intro t h; have := size_pos t; omega
    | succ N ih =>
      rintro ⟨k, n, s, a⟩ h
      simp only [Tm.size] at h
      have hl : ∀ l : List Tm, sizeL l ≤ N → sameL l l = true := by
        intro l
        induction l with
        | nil => intro _; rfl
        | cons x l ihl =>
          intro hl
          simp only [sizeL] at hl
          have := size_pos x
          simp only [sameL, ih x (by omega), ihl (by omega), Bool.and_self]
      simp [sameT, hl a (by omega)]
  exact fun t => key _ t (Nat.le_refl _)
theorem same_me9 {t : Tm} (ht : t.size ≤ 30000) (v v' : Value) (u : World) (P P' : Nat → Prop) (h : IsTm u P v t) (h' : IsTm u P' v' t) : Calls Try.prog 18 #[v, v'] u (Says true u) := by
  have := ref_same _ t t v v' _ _ u (Nat.le_refl _) (by omega) h h'
  rwa [sameT_me9] at this
set_option maxRecDepth 100000 in
set_option maxHeartbeats 4000000 in
theorem law_compiles (L M : List Pt) (c : Cod) (v1 v2 vs : Value) (w : World) (h1 : PtSl w v1 L) (h2 : PtSl w v2 M) (h3 : InsSl w vs c.l) : Calls Try.prog 3 #[v1, v2, codVal c vs] w (Says true w) := by
  obtain ⟨a1, c1, rfl, hc1, hm1⟩ := h1.form
  obtain ⟨a2, c2, rfl, hc2, hm2⟩ := h2.form
  obtain ⟨aq, cq, rfl⟩ := h3.form
  have HB0 := Lib.hid (below_new w (rcCells c (.slice aq c.l.length cq)))
  have HCR0 := Lib.hid (heap_alloc_new w (rcCells c (.slice aq c.l.length cq)))
  simp only [rcCells] at HB0 HCR0
  have H1 := Lib.hid h1
  have H2 := Lib.hid h2
  have H3 := Lib.hid h3
  clear h1 h2 h3
  by_cases g1 : 60 < L.length
  · skip
    have d1 : decide (60 < (L.length : Int)) = true := by simp; omega
    go_enter Try.func3, Try.ntmps3
    go_wp2_with fail
    refine (l9_alive _).mono ?_; rintro e1 w1 ⟨rfl, hb1⟩; have HB := Lib.hid (HB0.out.trans (hb1.mono HB0.out.size)); have HCR := Lib.hid (row_on HCR0.out hb1); clear hb1
    go_wp2_with fail
    refine (ref_great L _ _ (H1.out.below HB.out)).mono ?_; rintro e2 w2 ⟨rfl, rfl⟩
    go_wp2
    go_ret
    exact ⟨rfl, HB.out⟩
  have d1 : decide (60 < (L.length : Int)) = false := by simp; omega
  by_cases g2 : 60 < M.length
  · skip
    have d2 : decide (60 < (M.length : Int)) = true := by simp; omega
    go_enter Try.func3, Try.ntmps3
    go_wp2_with fail
    refine (l9_alive _).mono ?_; rintro e1 w1 ⟨rfl, hb1⟩; have HB := Lib.hid (HB0.out.trans (hb1.mono HB0.out.size)); have HCR := Lib.hid (row_on HCR0.out hb1); clear hb1
    go_wp2_with fail
    refine (ref_great L _ _ (H1.out.below HB.out)).mono ?_; rintro e2 w2 ⟨rfl, rfl⟩
    go_wp2_with fail
    refine (ref_great M _ _ (H2.out.below HB.out)).mono ?_; rintro e3 w3 ⟨rfl, rfl⟩
    go_wp2
    go_ret
    exact ⟨rfl, HB.out⟩
  have d2 : decide (60 < (M.length : Int)) = false := by simp; omega
  by_cases g3 : 2000 < c.l.length
  · skip
    have d3 : decide (2000 < (c.l.length : Int)) = true := by simp; omega
    go_enter Try.func3, Try.ntmps3
    go_wp2_with fail
    refine (l9_alive _).mono ?_; rintro e1 w1 ⟨rfl, hb1⟩; have HB := Lib.hid (HB0.out.trans (hb1.mono HB0.out.size)); have HCR := Lib.hid (row_on HCR0.out hb1); clear hb1
    go_wp2_with fail
    refine (ref_great L _ _ (H1.out.below HB.out)).mono ?_; rintro e2 w2 ⟨rfl, rfl⟩
    go_wp2_with fail
    refine (ref_great M _ _ (H2.out.below HB.out)).mono ?_; rintro e3 w3 ⟨rfl, rfl⟩
    obtain ⟨k0, k1, k2, k3, k4⟩ := row5 HCR.out
    go_wp2
    go_ret
    exact ⟨rfl, HB.out⟩
  have d3 : decide (2000 < (c.l.length : Int)) = false := by simp; omega
  have SA := ofN_small L.length L
  have SB := ofN_small M.length M
  replace SA : (ofN L.length L).1.size ≤ 900 := by omega
  replace SB : (ofN M.length M).1.size ≤ 900 := by omega
  have hcl : c.l.length ≤ 2000 := by omega
  go_enter Try.func3, Try.ntmps3
  go_wp2_with fail
  refine (l9_alive _).mono ?_; rintro e1 w1 ⟨rfl, hb1⟩; have HB := Lib.hid (HB0.out.trans (hb1.mono HB0.out.size)); have HCR := Lib.hid (row_on HCR0.out hb1); clear hb1
  go_wp2_with fail
  refine (ref_great L _ _ (H1.out.below HB.out)).mono ?_; rintro e2 w2 ⟨rfl, rfl⟩
  go_wp2_with fail
  refine (ref_great M _ _ (H2.out.below HB.out)).mono ?_; rintro e3 w3 ⟨rfl, rfl⟩
  obtain ⟨k0, k1, k2, k3, k4⟩ := row5 HCR.out
  go_wp2_with fail
  clear k0 k1 k2 k3 k4
  refine (ref_of L.length L _ _ (Nat.le_refl _) (by omega) (H1.out.below HB.out)).mono ?_
  rintro e4 w4 ⟨v3, rfl, hi3, hbq⟩
  replace HCR := Lib.hid (row_on HCR.out hbq)
  replace HB := Lib.hid (HB.out.trans (hbq.mono HB.out.size))
  have HA := Lib.hid hi3.any
  clear hi3 hbq H1
  generalize (ofN L.length L).1 = A at *
  obtain ⟨aA, cA, rfl⟩ := HA.out.form
  go_upto_region 6 with fail
  have hbq := below_new w4 (.cells #[.int .i64 A.k, .int .i64 A.n, .string A.s, .slice aA A.args.length cA] 30 (0, 0))
  have hq := heap_alloc_new w4 (.cells #[.int .i64 A.k, .int .i64 A.n, .string A.s, .slice aA A.args.length cA] 30 (0, 0))
  have hzq : w4.heap.size < (w4.alloc (.cells #[.int .i64 A.k, .int .i64 A.n, .string A.s, .slice aA A.args.length cA] 30 (0, 0))).heap.size := by simp
  replace HCR := Lib.hid (row_on HCR.out hbq)
  replace HA := Lib.hid (HA.out.below hbq)
  replace HB := Lib.hid (HB.out.trans (hbq.mono HB.out.size))
  have HR1 := Lib.hid hq
  clear hbq hq
  generalize w4.alloc (.cells #[.int .i64 A.k, .int .i64 A.n, .string A.s, .slice aA A.args.length cA] 30 (0, 0)) = W4 at *
  go_wp2_with fail
  refine (ref_of M.length M _ _ (Nat.le_refl _) (by omega) (H2.out.below HB.out)).mono ?_
  rintro e5 w5 ⟨v4, rfl, hi4, hbq⟩
  replace HCR := Lib.hid (row_on HCR.out hbq)
  replace HR1 := Lib.hid (row_on HR1.out hbq)
  replace HA := Lib.hid (HA.out.below hbq)
  replace HB := Lib.hid (HB.out.trans (hbq.mono HB.out.size))
  have HC := Lib.hid hi4.any
  clear hi4 hbq H2
  generalize (ofN M.length M).1 = B at *
  obtain ⟨aC, cC, rfl⟩ := HC.out.form
  go_upto_region 7 with fail
  have hbq := below_new w5 (.cells #[.int .i64 B.k, .int .i64 B.n, .string B.s, .slice aC B.args.length cC] 30 (0, 0))
  have hq := heap_alloc_new w5 (.cells #[.int .i64 B.k, .int .i64 B.n, .string B.s, .slice aC B.args.length cC] 30 (0, 0))
  have hzq : w5.heap.size < (w5.alloc (.cells #[.int .i64 B.k, .int .i64 B.n, .string B.s, .slice aC B.args.length cC] 30 (0, 0))).heap.size := by simp
  replace HCR := Lib.hid (row_on HCR.out hbq)
  replace HR1 := Lib.hid (row_on HR1.out hbq)
  replace HA := Lib.hid (HA.out.below hbq)
  replace HC := Lib.hid (HC.out.below hbq)
  replace HB := Lib.hid (HB.out.trans (hbq.mono HB.out.size))
  have HR2 := Lib.hid hq
  clear hbq hq
  generalize w5.alloc (.cells #[.int .i64 B.k, .int .i64 B.n, .string B.s, .slice aC B.args.length cC] 30 (0, 0)) = W5 at *
  have SMA := mendT_size A
  have SMB := mendT_size B
  refine wp_region_rest (by kernel_rfl) ?_
  have hd := (Below.refl W5.heap.size W5).drew
  replace HCR := Lib.hid (row_on HCR.out hd)
  replace HR1 := Lib.hid (row_on HR1.out hd)
  replace HR2 := Lib.hid (row_on HR2.out hd)
  replace HA := Lib.hid (HA.out.below hd)
  replace HC := Lib.hid (HC.out.below hd)
  replace HB := Lib.hid (HB.out.trans (hd.mono HB.out.size))
  clear hd
  generalize W5.drew = W0 at *
  refine rest_opsL 0 10 112 [_, _, _, _, _, _, _, _, _, _] (pk 0 [isV ((.agg #[.int .i64 A.k, .int .i64 A.n, .string A.s, .slice aA A.args.length cA])), isV ((.agg #[.int .i64 B.k, .int .i64 B.n, .string B.s, .slice aC B.args.length cC])), isV ((.agg #[.int .i64 A.k, .int .i64 A.n, .string A.s, .slice aA A.args.length cA, .int .i64 B.k, .int .i64 B.n, .string B.s, .slice aC B.args.length cC])), isV ((.agg #[.int .i64 A.k, .int .i64 A.n, .string A.s, .slice aA A.args.length cA])), fun v u => IsTm u AnyB v (mendT A), isV ((.agg #[.int .i64 B.k, .int .i64 B.n, .string B.s, .slice aC B.args.length cC])), fun v u => IsTm u AnyB v (mendT B), fun v u => Arr2 u v (mendT A) (mendT B), fun v u => Arr22 u v A B (mendT A) (mendT B), isV ?a1_9]) (fun _ _ => none) rfl (by kernel_rfl) (by kernel_rfl) rfl (.inl rfl) ?hS1 ?hop1 ?_
  case hop1 =>
    refine hops_cons ?_ ?_
    · intro v u hu hs Q' hQ
      simp only [putAll, dstOf]
      obtain ⟨f0, f1, f2, f3⟩ := row4 (row_on HR1.out hu)
      obtain ⟨h0, h1, h2, h3⟩ := row4 (row_on HR2.out hu)
      clear hs
      go_wp2
      exact ⟨rfl, Below.refl _ _, by (show _ = _; rfl), fun _ h => nomatch h⟩
    refine hops_cons ?_ ?_
    · intro v u hu hs Q' hQ
      simp only [putAll, dstOf]
      obtain ⟨f0, f1, f2, f3⟩ := row4 (row_on HR1.out hu)
      obtain ⟨h0, h1, h2, h3⟩ := row4 (row_on HR2.out hu)
      clear hs
      go_wp2
      exact ⟨rfl, Below.refl _ _, by (show _ = _; rfl), fun _ h => nomatch h⟩
    refine hops_cons ?_ ?_
    · intro v u hu hs Q' hQ
      simp only [putAll, dstOf]
      have s_0 : v 0 = (.agg #[.int .i64 A.k, .int .i64 A.n, .string A.s, .slice aA A.args.length cA]) := hs 0 (by kernel_rfl) (by decide) (by decide)
      have s_1 : v 1 = (.agg #[.int .i64 B.k, .int .i64 B.n, .string B.s, .slice aC B.args.length cC]) := hs 1 (by kernel_rfl) (by decide) (by decide)
      clear hs
      go_wp2
      exact ⟨rfl, Below.refl _ _, by (show _ = _; rfl), fun _ h => nomatch h⟩
    refine hops_cons ?_ ?_
    · intro v u hu hs Q' hQ
      simp only [putAll, dstOf]
      obtain ⟨f0, f1, f2, f3⟩ := row4 (row_on HR1.out hu)
      obtain ⟨h0, h1, h2, h3⟩ := row4 (row_on HR2.out hu)
      clear hs
      go_wp2
      exact ⟨rfl, Below.refl _ _, by (show _ = _; rfl), fun _ h => nomatch h⟩
    refine hops_cons ?_ ?_
    · intro v u hu hs Q' hQ
      simp only [putAll, dstOf]
      have s_3 : v 3 = (.agg #[.int .i64 A.k, .int .i64 A.n, .string A.s, .slice aA A.args.length cA]) := hs 3 (by kernel_rfl) (by decide) (by decide)
      obtain ⟨f0, f1, f2, f3⟩ := row4 (row_on HR1.out hu)
      obtain ⟨h0, h1, h2, h3⟩ := row4 (row_on HR2.out hu)
      clear hs
      go_wp2_with (go_at_call 10; refine (ref_mend9 A _ _ (by omega) (HA.out.below hu)).mono ?_; rintro e1 w1 ⟨v1, rfl, hi1, hb1⟩)
      exact ⟨rfl, hb1, hi1, fun _ h => nomatch h⟩
    refine hops_cons ?_ ?_
    · intro v u hu hs Q' hQ
      simp only [putAll, dstOf]
      obtain ⟨f0, f1, f2, f3⟩ := row4 (row_on HR1.out hu)
      obtain ⟨h0, h1, h2, h3⟩ := row4 (row_on HR2.out hu)
      clear hs
      go_wp2
      exact ⟨rfl, Below.refl _ _, by (show _ = _; rfl), fun _ h => nomatch h⟩
    refine hops_cons ?_ ?_
    · intro v u hu hs Q' hQ
      simp only [putAll, dstOf]
      have s_4 : IsTm u AnyB (v 4) (mendT A) := hs 4 (by kernel_rfl) (by decide) (by decide)
      have s_5 : v 5 = (.agg #[.int .i64 B.k, .int .i64 B.n, .string B.s, .slice aC B.args.length cC]) := hs 5 (by kernel_rfl) (by decide) (by decide)
      obtain ⟨f0, f1, f2, f3⟩ := row4 (row_on HR1.out hu)
      obtain ⟨h0, h1, h2, h3⟩ := row4 (row_on HR2.out hu)
      clear hs
      go_wp2_with (go_at_call 10; refine (ref_mend9 B _ _ (by omega) (HC.out.below hu)).mono ?_; rintro e1 w1 ⟨v1, rfl, hi1, hb1⟩)
      exact ⟨rfl, hb1, hi1, fun _ h => nomatch h⟩
    refine hops_cons ?_ ?_
    · intro v u hu hs Q' hQ
      simp only [putAll, dstOf]
      have s_4 : IsTm u AnyB (v 4) (mendT A) := hs 4 (by kernel_rfl) (by decide) (by decide)
      have s_6 : IsTm u AnyB (v 6) (mendT B) := hs 6 (by kernel_rfl) (by decide) (by decide)
      obtain ⟨f0, f1, f2, f3⟩ := row4 (row_on HR1.out hu)
      obtain ⟨h0, h1, h2, h3⟩ := row4 (row_on HR2.out hu)
      clear hs
      (obtain ⟨a3, c3, e3⟩ := s_4.form; obtain ⟨a5, c5, e5⟩ := s_6.form; rw [e3] at s_4; rw [e5] at s_6; rw [e3, e5]; go_wp2)
      exact ⟨rfl, Below.refl _ _, ⟨a3, a5, c3, c5, rfl, s_4, s_6⟩, fun _ h => nomatch h⟩
    refine hops_cons ?_ ?_
    · intro v u hu hs Q' hQ
      simp only [putAll, dstOf]
      have s_2 : v 2 = (.agg #[.int .i64 A.k, .int .i64 A.n, .string A.s, .slice aA A.args.length cA, .int .i64 B.k, .int .i64 B.n, .string B.s, .slice aC B.args.length cC]) := hs 2 (by kernel_rfl) (by decide) (by decide)
      have s_7 : Arr2 u (v 7) (mendT A) (mendT B) := hs 7 (by kernel_rfl) (by decide) (by decide)
      obtain ⟨f0, f1, f2, f3⟩ := row4 (row_on HR1.out hu)
      obtain ⟨h0, h1, h2, h3⟩ := row4 (row_on HR2.out hu)
      clear hs
      (obtain ⟨a3, a5, c3, c5, e7, i3, i5⟩ := s_7; rw [e7]; go_wp2)
      exact ⟨rfl, Below.refl _ _, ⟨aA, aC, a3, a5, cA, cC, c3, c5, rfl, HA.out.below hu, HC.out.below hu, i3, i5⟩, fun _ h => nomatch h⟩
    refine hops_cons ?_ ?_
    · intro v u hu hs Q' hQ
      simp only [putAll, dstOf]
      clear hs
      go_wp2
      exact ⟨rfl, Below.refl _ _, by (show _ = _; rfl), fun _ h => nomatch h⟩
    exact hops_nil
  case hS1 =>
    intro j v u u' hkj hjn h hb
    match j, hkj, hjn, h with
    | 0, _, _, h => exact h
    | 1, _, _, h => exact h
    | 2, _, _, h => exact h
    | 3, _, _, h => exact h
    | 4, _, _, h => exact h.below hb
    | 5, _, _, h => exact h
    | 6, _, _, h => exact h.below hb
    | 7, _, _, h => exact h.below hb
    | 8, _, _, h => exact h.below hb
    | 9, _, _, h => exact h
    | q + 10, _, hq, _ => exact absurd hq (by omega)
  intro v u hu hs hap
  have s_0 : v 0 = (.agg #[.int .i64 A.k, .int .i64 A.n, .string A.s, .slice aA A.args.length cA]) := hs 0 (by decide) (by decide)
  have s_1 : v 1 = (.agg #[.int .i64 B.k, .int .i64 B.n, .string B.s, .slice aC B.args.length cC]) := hs 1 (by decide) (by decide)
  have s_2 : v 2 = (.agg #[.int .i64 A.k, .int .i64 A.n, .string A.s, .slice aA A.args.length cA, .int .i64 B.k, .int .i64 B.n, .string B.s, .slice aC B.args.length cC]) := hs 2 (by decide) (by decide)
  have s_3 : v 3 = (.agg #[.int .i64 A.k, .int .i64 A.n, .string A.s, .slice aA A.args.length cA]) := hs 3 (by decide) (by decide)
  have s_4 : IsTm u AnyB (v 4) (mendT A) := hs 4 (by decide) (by decide)
  have s_5 : v 5 = (.agg #[.int .i64 B.k, .int .i64 B.n, .string B.s, .slice aC B.args.length cC]) := hs 5 (by decide) (by decide)
  have s_6 : IsTm u AnyB (v 6) (mendT B) := hs 6 (by decide) (by decide)
  have s_7 : Arr2 u (v 7) (mendT A) (mendT B) := hs 7 (by decide) (by decide)
  have s_8 : Arr22 u (v 8) A B (mendT A) (mendT B) := hs 8 (by decide) (by decide)
  have s_9 : v 9 = _ := hs 9 (by decide) (by decide)
  simp only [putAll, dstOf]
  replace HCR := Lib.hid (row_on HCR.out hu)
  replace HR1 := Lib.hid (row_on HR1.out hu)
  replace HR2 := Lib.hid (row_on HR2.out hu)
  replace HA := Lib.hid (HA.out.below hu)
  replace HC := Lib.hid (HC.out.below hu)
  replace HB := Lib.hid (HB.out.trans (hu.mono HB.out.size))
  obtain ⟨ak0, ak1, ak2, ak3, ck0, ck1, ck2, ck3, e8, h0, h1, h2, h3⟩ := s_8
  have K0 := Lib.hid h0
  have K1 := Lib.hid h1
  have K2 := Lib.hid h2
  have K3 := Lib.hid h3
  clear h0 h1 h2 h3 s_4 s_6 s_7
  clear HA HC HR1 HR2
  refine then_rest (rest_end (by decide) ?_)
  simp only [s_0, s_1, s_2, s_3, s_5, e8, s_9]
  go_wp2_with fail
  refine wp_loop_rounds 3 ?_
  have ix0 := ix22_0 (.int .i64 A.k) (.int .i64 A.n) (.string A.s) (.slice ak0 A.args.length ck0) (.int .i64 B.k) (.int .i64 B.n) (.string B.s) (.slice ak1 B.args.length ck1) (.int .i64 (mendT A).k) (.int .i64 (mendT A).n) (.string (mendT A).s) (.slice ak2 (mendT A).args.length ck2) (.int .i64 (mendT B).k) (.int .i64 (mendT B).n) (.string (mendT B).s) (.slice ak3 (mendT B).args.length ck3)
  have ix1 := ix22_1 (.int .i64 A.k) (.int .i64 A.n) (.string A.s) (.slice ak0 A.args.length ck0) (.int .i64 B.k) (.int .i64 B.n) (.string B.s) (.slice ak1 B.args.length ck1) (.int .i64 (mendT A).k) (.int .i64 (mendT A).n) (.string (mendT A).s) (.slice ak2 (mendT A).args.length ck2) (.int .i64 (mendT B).k) (.int .i64 (mendT B).n) (.string (mendT B).s) (.slice ak3 (mendT B).args.length ck3)
  rw [rounds_succ]
  go_upto_region 10 with fail
  have hbq := below_new u (.cells #[.int .i64 A.k, .int .i64 A.n, .string A.s, .slice ak0 A.args.length ck0, .int .i64 B.k, .int .i64 B.n, .string B.s, .slice ak1 B.args.length ck1] 33 (0, 0))
  have hq := heap_alloc_new u (.cells #[.int .i64 A.k, .int .i64 A.n, .string A.s, .slice ak0 A.args.length ck0, .int .i64 B.k, .int .i64 B.n, .string B.s, .slice ak1 B.args.length ck1] 33 (0, 0))
  replace HCR := Lib.hid (row_on HCR.out hbq)
  replace K0 := Lib.hid (K0.out.below hbq)
  replace K1 := Lib.hid (K1.out.below hbq)
  replace K2 := Lib.hid (K2.out.below hbq)
  replace K3 := Lib.hid (K3.out.below hbq)
  replace HB := Lib.hid (HB.out.trans (hbq.mono HB.out.size))
  have HX := Lib.hid hq
  clear hbq hq
  generalize u.alloc (.cells #[.int .i64 A.k, .int .i64 A.n, .string A.s, .slice ak0 A.args.length ck0, .int .i64 B.k, .int .i64 B.n, .string B.s, .slice ak1 B.args.length ck1] 33 (0, 0)) = Wa0 at *
  obtain ⟨r1, r2, hr⟩ : ∃ r1 r2, compE A B = (r1, r2) := ⟨_, _, rfl⟩
  have hrl := compE_len A B (by omega) (by omega)
  rw [hr] at hrl
  simp only at hrl
  have HR := Lib.hid hr
  clear hr
  obtain ⟨x0, x1, x2, x3, x4, x5, x6, x7⟩ := row8 HX.out
  go_wp2_with fail
  clear x0 x1 x2 x3 x4 x5 x6 x7
  refine (go_Compile A B _ _ _ _ _ (by omega) (by omega) K0.out K1.out).mono ?_
  rintro ewb0 wb0 ⟨vswb0, rfl, hi, hbq⟩
  rw [HR.out] at hi ⊢
  simp only at hi ⊢
  obtain ⟨aswb0, cswb0, rfl⟩ := hi.form
  replace HCR := Lib.hid (row_on HCR.out hbq)
  replace HX := Lib.hid (row_on HX.out hbq)
  replace K0 := Lib.hid (K0.out.below hbq)
  replace K1 := Lib.hid (K1.out.below hbq)
  replace K2 := Lib.hid (K2.out.below hbq)
  replace K3 := Lib.hid (K3.out.below hbq)
  replace HB := Lib.hid (HB.out.trans (hbq.mono HB.out.size))
  have HI1 := Lib.hid hi
  clear hi hbq
  go_upto_region 11 with fail
  have hbq := below_new wb0 (.cells #[.string r1.name, .int .i64 r1.args, .int .i64 r1.slots, .int .i64 r1.body, .slice aswb0 r1.l.length cswb0] 38 (0, 0))
  have hq := heap_alloc_new wb0 (.cells #[.string r1.name, .int .i64 r1.args, .int .i64 r1.slots, .int .i64 r1.body, .slice aswb0 r1.l.length cswb0] 38 (0, 0))
  replace HCR := Lib.hid (row_on HCR.out hbq)
  replace HX := Lib.hid (row_on HX.out hbq)
  replace K0 := Lib.hid (K0.out.below hbq)
  replace K1 := Lib.hid (K1.out.below hbq)
  replace K2 := Lib.hid (K2.out.below hbq)
  replace K3 := Lib.hid (K3.out.below hbq)
  replace HI1 := Lib.hid (HI1.out.below hbq)
  replace HB := Lib.hid (HB.out.trans (hbq.mono HB.out.size))
  have HY := Lib.hid hq
  clear hbq hq
  generalize wb0.alloc (.cells #[.string r1.name, .int .i64 r1.args, .int .i64 r1.slots, .int .i64 r1.body, .slice aswb0 r1.l.length cswb0] 38 (0, 0)) = Wb0 at *
  obtain ⟨x0, x1, x2, x3, x4, x5, x6, x7⟩ := row8 HX.out
  go_wp2_with fail
  clear x0 x1 x2 x3 x4 x5 x6 x7
  refine (ref_Compile A B _ _ _ _ _ (by omega) (by omega) K0.out K1.out).mono ?_
  rintro ewc0 wc0 ⟨vswc0, rfl, hi, hbq⟩
  rw [HR.out] at hi ⊢
  simp only at hi ⊢
  obtain ⟨aswc0, cswc0, rfl⟩ := hi.form
  replace HCR := Lib.hid (row_on HCR.out hbq)
  replace HX := Lib.hid (row_on HX.out hbq)
  replace HY := Lib.hid (row_on HY.out hbq)
  replace K0 := Lib.hid (K0.out.below hbq)
  replace K1 := Lib.hid (K1.out.below hbq)
  replace K2 := Lib.hid (K2.out.below hbq)
  replace K3 := Lib.hid (K3.out.below hbq)
  replace HI1 := Lib.hid (HI1.out.below hbq)
  replace HB := Lib.hid (HB.out.trans (hbq.mono HB.out.size))
  have HI2 := Lib.hid hi
  clear hi hbq
  go_upto_region 12 with fail
  have hbq := below_new wc0 (.cells #[.string r1.name, .int .i64 r1.args, .int .i64 r1.slots, .int .i64 r1.body, .slice aswc0 r1.l.length cswc0] 25 (0, 0))
  have hq := heap_alloc_new wc0 (.cells #[.string r1.name, .int .i64 r1.args, .int .i64 r1.slots, .int .i64 r1.body, .slice aswc0 r1.l.length cswc0] 25 (0, 0))
  replace HCR := Lib.hid (row_on HCR.out hbq)
  replace HX := Lib.hid (row_on HX.out hbq)
  replace HY := Lib.hid (row_on HY.out hbq)
  replace K0 := Lib.hid (K0.out.below hbq)
  replace K1 := Lib.hid (K1.out.below hbq)
  replace K2 := Lib.hid (K2.out.below hbq)
  replace K3 := Lib.hid (K3.out.below hbq)
  replace HI1 := Lib.hid (HI1.out.below hbq)
  replace HI2 := Lib.hid (HI2.out.below hbq)
  replace HB := Lib.hid (HB.out.trans (hbq.mono HB.out.size))
  have HZ := Lib.hid hq
  clear hbq hq
  generalize wc0.alloc (.cells #[.string r1.name, .int .i64 r1.args, .int .i64 r1.slots, .int .i64 r1.body, .slice aswc0 r1.l.length cswc0] 25 (0, 0)) = Wc0 at *
  refine wp_region_rest (by kernel_rfl) ?_
  have hd := (Below.refl Wc0.heap.size Wc0).drew
  replace HCR := Lib.hid (row_on HCR.out hd)
  replace HX := Lib.hid (row_on HX.out hd)
  replace HY := Lib.hid (row_on HY.out hd)
  replace HZ := Lib.hid (row_on HZ.out hd)
  replace K0 := Lib.hid (K0.out.below hd)
  replace K1 := Lib.hid (K1.out.below hd)
  replace K2 := Lib.hid (K2.out.below hd)
  replace K3 := Lib.hid (K3.out.below hd)
  replace HI1 := Lib.hid (HI1.out.below hd)
  replace HI2 := Lib.hid (HI2.out.below hd)
  replace HB := Lib.hid (HB.out.trans (hd.mono HB.out.size))
  clear hd
  generalize Wc0.drew = Wd0 at *
  have p2 : (r2 != r2) = false := by simp
  obtain ⟨y0, y1, y2, y3, y4⟩ := row5 HY.out
  obtain ⟨z0, z1, z2, z3, z4⟩ := row5 HZ.out
  refine rest_chain 0 10 [(false, [0, 1, 2, 3, 4, 6]), (true, [5]), (true, [7]), (false, [8, 9])] [(false, [_, _, _, _, _, _]), (true, [_]), (true, [_]), (false, [_, _])] rfl (by kernel_rfl) (by kernel_rfl) rfl (by kernel_rfl) (by kernel_rfl) (.inl rfl) ?_
  refine chain_soft ?_
  intro E hE
  go_wp2
  clear y0 y1 y2 y3 y4 z0 z1 z2 z3 z4
  refine chain_one ?_
  intro E hE
  go_wp2_with (refine (from_any r1 _ _ HI1.out hrl).mono ?_; rintro e8 wf ⟨vf, rfl, hif, hbf⟩; have HIF := Lib.hid hif; have HBF := Lib.hid hbf; clear hif hbf)
  refine ⟨HBF.out, ?_⟩
  replace HCR := Lib.hid (row_on HCR.out HBF.out)
  replace HX := Lib.hid (row_on HX.out HBF.out)
  replace HY := Lib.hid (row_on HY.out HBF.out)
  replace HZ := Lib.hid (row_on HZ.out HBF.out)
  replace K0 := Lib.hid (K0.out.below HBF.out)
  replace K1 := Lib.hid (K1.out.below HBF.out)
  replace K2 := Lib.hid (K2.out.below HBF.out)
  replace K3 := Lib.hid (K3.out.below HBF.out)
  replace HI1 := Lib.hid (HI1.out.below HBF.out)
  replace HI2 := Lib.hid (HI2.out.below HBF.out)
  replace HB := Lib.hid (HB.out.trans (HBF.out.mono HB.out.size))
  refine chain_one ?_
  intro E hE
  go_wp2_with (refine (Cod.ref_same r1 _ _ _ HIF.out HI2.out hrl).mono ?_; rintro e9 wg ⟨rfl, hbg⟩; have HBG := Lib.hid hbg; clear hbg)
  refine ⟨HBG.out, ?_⟩
  replace HCR := Lib.hid (row_on HCR.out HBG.out)
  replace HX := Lib.hid (row_on HX.out HBG.out)
  replace HY := Lib.hid (row_on HY.out HBG.out)
  replace HZ := Lib.hid (row_on HZ.out HBG.out)
  replace K0 := Lib.hid (K0.out.below HBG.out)
  replace K1 := Lib.hid (K1.out.below HBG.out)
  replace K2 := Lib.hid (K2.out.below HBG.out)
  replace K3 := Lib.hid (K3.out.below HBG.out)
  replace HI1 := Lib.hid (HI1.out.below HBG.out)
  replace HI2 := Lib.hid (HI2.out.below HBG.out)
  replace HB := Lib.hid (HB.out.trans (HBG.out.mono HB.out.size))
  refine chain_soft ?_
  intro E hE
  go_wp2
  refine chain_nil (rest_end (by decide) ?_)
  go_wp2_with fail
  clear HIF HBF HBG p2 HR hrl HX HY HZ HI1 HI2
  rw [rounds_succ]
  go_upto_region 10 with fail
  have hbq := below_new wg (.cells #[.int .i64 (mendT A).k, .int .i64 (mendT A).n, .string (mendT A).s, .slice ak2 (mendT A).args.length ck2, .int .i64 (mendT B).k, .int .i64 (mendT B).n, .string (mendT B).s, .slice ak3 (mendT B).args.length ck3] 33 (0, 0))
  have hq := heap_alloc_new wg (.cells #[.int .i64 (mendT A).k, .int .i64 (mendT A).n, .string (mendT A).s, .slice ak2 (mendT A).args.length ck2, .int .i64 (mendT B).k, .int .i64 (mendT B).n, .string (mendT B).s, .slice ak3 (mendT B).args.length ck3] 33 (0, 0))
  replace HCR := Lib.hid (row_on HCR.out hbq)
  replace K0 := Lib.hid (K0.out.below hbq)
  replace K1 := Lib.hid (K1.out.below hbq)
  replace K2 := Lib.hid (K2.out.below hbq)
  replace K3 := Lib.hid (K3.out.below hbq)
  replace HB := Lib.hid (HB.out.trans (hbq.mono HB.out.size))
  have HX := Lib.hid hq
  clear hbq hq
  generalize wg.alloc (.cells #[.int .i64 (mendT A).k, .int .i64 (mendT A).n, .string (mendT A).s, .slice ak2 (mendT A).args.length ck2, .int .i64 (mendT B).k, .int .i64 (mendT B).n, .string (mendT B).s, .slice ak3 (mendT B).args.length ck3] 33 (0, 0)) = Wa1 at *
  obtain ⟨r1, r2, hr⟩ : ∃ r1 r2, compE (mendT A) (mendT B) = (r1, r2) := ⟨_, _, rfl⟩
  have hrl := compE_len (mendT A) (mendT B) (by omega) (by omega)
  rw [hr] at hrl
  simp only at hrl
  have HR := Lib.hid hr
  clear hr
  obtain ⟨x0, x1, x2, x3, x4, x5, x6, x7⟩ := row8 HX.out
  go_wp2_with fail
  clear x0 x1 x2 x3 x4 x5 x6 x7
  refine (go_Compile (mendT A) (mendT B) _ _ _ _ _ (by omega) (by omega) K2.out K3.out).mono ?_
  rintro ewb1 wb1 ⟨vswb1, rfl, hi, hbq⟩
  rw [HR.out] at hi ⊢
  simp only at hi ⊢
  obtain ⟨aswb1, cswb1, rfl⟩ := hi.form
  replace HCR := Lib.hid (row_on HCR.out hbq)
  replace HX := Lib.hid (row_on HX.out hbq)
  replace K0 := Lib.hid (K0.out.below hbq)
  replace K1 := Lib.hid (K1.out.below hbq)
  replace K2 := Lib.hid (K2.out.below hbq)
  replace K3 := Lib.hid (K3.out.below hbq)
  replace HB := Lib.hid (HB.out.trans (hbq.mono HB.out.size))
  have HI1 := Lib.hid hi
  clear hi hbq
  go_upto_region 11 with fail
  have hbq := below_new wb1 (.cells #[.string r1.name, .int .i64 r1.args, .int .i64 r1.slots, .int .i64 r1.body, .slice aswb1 r1.l.length cswb1] 38 (0, 0))
  have hq := heap_alloc_new wb1 (.cells #[.string r1.name, .int .i64 r1.args, .int .i64 r1.slots, .int .i64 r1.body, .slice aswb1 r1.l.length cswb1] 38 (0, 0))
  replace HCR := Lib.hid (row_on HCR.out hbq)
  replace HX := Lib.hid (row_on HX.out hbq)
  replace K0 := Lib.hid (K0.out.below hbq)
  replace K1 := Lib.hid (K1.out.below hbq)
  replace K2 := Lib.hid (K2.out.below hbq)
  replace K3 := Lib.hid (K3.out.below hbq)
  replace HI1 := Lib.hid (HI1.out.below hbq)
  replace HB := Lib.hid (HB.out.trans (hbq.mono HB.out.size))
  have HY := Lib.hid hq
  clear hbq hq
  generalize wb1.alloc (.cells #[.string r1.name, .int .i64 r1.args, .int .i64 r1.slots, .int .i64 r1.body, .slice aswb1 r1.l.length cswb1] 38 (0, 0)) = Wb1 at *
  obtain ⟨x0, x1, x2, x3, x4, x5, x6, x7⟩ := row8 HX.out
  go_wp2_with fail
  clear x0 x1 x2 x3 x4 x5 x6 x7
  refine (ref_Compile (mendT A) (mendT B) _ _ _ _ _ (by omega) (by omega) K2.out K3.out).mono ?_
  rintro ewc1 wc1 ⟨vswc1, rfl, hi, hbq⟩
  rw [HR.out] at hi ⊢
  simp only at hi ⊢
  obtain ⟨aswc1, cswc1, rfl⟩ := hi.form
  replace HCR := Lib.hid (row_on HCR.out hbq)
  replace HX := Lib.hid (row_on HX.out hbq)
  replace HY := Lib.hid (row_on HY.out hbq)
  replace K0 := Lib.hid (K0.out.below hbq)
  replace K1 := Lib.hid (K1.out.below hbq)
  replace K2 := Lib.hid (K2.out.below hbq)
  replace K3 := Lib.hid (K3.out.below hbq)
  replace HI1 := Lib.hid (HI1.out.below hbq)
  replace HB := Lib.hid (HB.out.trans (hbq.mono HB.out.size))
  have HI2 := Lib.hid hi
  clear hi hbq
  go_upto_region 12 with fail
  have hbq := below_new wc1 (.cells #[.string r1.name, .int .i64 r1.args, .int .i64 r1.slots, .int .i64 r1.body, .slice aswc1 r1.l.length cswc1] 25 (0, 0))
  have hq := heap_alloc_new wc1 (.cells #[.string r1.name, .int .i64 r1.args, .int .i64 r1.slots, .int .i64 r1.body, .slice aswc1 r1.l.length cswc1] 25 (0, 0))
  replace HCR := Lib.hid (row_on HCR.out hbq)
  replace HX := Lib.hid (row_on HX.out hbq)
  replace HY := Lib.hid (row_on HY.out hbq)
  replace K0 := Lib.hid (K0.out.below hbq)
  replace K1 := Lib.hid (K1.out.below hbq)
  replace K2 := Lib.hid (K2.out.below hbq)
  replace K3 := Lib.hid (K3.out.below hbq)
  replace HI1 := Lib.hid (HI1.out.below hbq)
  replace HI2 := Lib.hid (HI2.out.below hbq)
  replace HB := Lib.hid (HB.out.trans (hbq.mono HB.out.size))
  have HZ := Lib.hid hq
  clear hbq hq
  generalize wc1.alloc (.cells #[.string r1.name, .int .i64 r1.args, .int .i64 r1.slots, .int .i64 r1.body, .slice aswc1 r1.l.length cswc1] 25 (0, 0)) = Wc1 at *
  refine wp_region_rest (by kernel_rfl) ?_
  have hd := (Below.refl Wc1.heap.size Wc1).drew
  replace HCR := Lib.hid (row_on HCR.out hd)
  replace HX := Lib.hid (row_on HX.out hd)
  replace HY := Lib.hid (row_on HY.out hd)
  replace HZ := Lib.hid (row_on HZ.out hd)
  replace K0 := Lib.hid (K0.out.below hd)
  replace K1 := Lib.hid (K1.out.below hd)
  replace K2 := Lib.hid (K2.out.below hd)
  replace K3 := Lib.hid (K3.out.below hd)
  replace HI1 := Lib.hid (HI1.out.below hd)
  replace HI2 := Lib.hid (HI2.out.below hd)
  replace HB := Lib.hid (HB.out.trans (hd.mono HB.out.size))
  clear hd
  generalize Wc1.drew = Wd1 at *
  have p2 : (r2 != r2) = false := by simp
  obtain ⟨y0, y1, y2, y3, y4⟩ := row5 HY.out
  obtain ⟨z0, z1, z2, z3, z4⟩ := row5 HZ.out
  refine rest_chain 0 10 [(false, [0, 1, 2, 3, 4, 6]), (true, [5]), (true, [7]), (false, [8, 9])] [(false, [_, _, _, _, _, _]), (true, [_]), (true, [_]), (false, [_, _])] rfl (by kernel_rfl) (by kernel_rfl) rfl (by kernel_rfl) (by kernel_rfl) (.inl rfl) ?_
  refine chain_soft ?_
  intro E hE
  go_wp2
  clear y0 y1 y2 y3 y4 z0 z1 z2 z3 z4
  refine chain_one ?_
  intro E hE
  go_wp2_with (refine (from_any r1 _ _ HI1.out hrl).mono ?_; rintro e8 wf ⟨vf, rfl, hif, hbf⟩; have HIF := Lib.hid hif; have HBF := Lib.hid hbf; clear hif hbf)
  refine ⟨HBF.out, ?_⟩
  replace HCR := Lib.hid (row_on HCR.out HBF.out)
  replace HX := Lib.hid (row_on HX.out HBF.out)
  replace HY := Lib.hid (row_on HY.out HBF.out)
  replace HZ := Lib.hid (row_on HZ.out HBF.out)
  replace K0 := Lib.hid (K0.out.below HBF.out)
  replace K1 := Lib.hid (K1.out.below HBF.out)
  replace K2 := Lib.hid (K2.out.below HBF.out)
  replace K3 := Lib.hid (K3.out.below HBF.out)
  replace HI1 := Lib.hid (HI1.out.below HBF.out)
  replace HI2 := Lib.hid (HI2.out.below HBF.out)
  replace HB := Lib.hid (HB.out.trans (HBF.out.mono HB.out.size))
  refine chain_one ?_
  intro E hE
  go_wp2_with (refine (Cod.ref_same r1 _ _ _ HIF.out HI2.out hrl).mono ?_; rintro e9 wg ⟨rfl, hbg⟩; have HBG := Lib.hid hbg; clear hbg)
  refine ⟨HBG.out, ?_⟩
  replace HCR := Lib.hid (row_on HCR.out HBG.out)
  replace HX := Lib.hid (row_on HX.out HBG.out)
  replace HY := Lib.hid (row_on HY.out HBG.out)
  replace HZ := Lib.hid (row_on HZ.out HBG.out)
  replace K0 := Lib.hid (K0.out.below HBG.out)
  replace K1 := Lib.hid (K1.out.below HBG.out)
  replace K2 := Lib.hid (K2.out.below HBG.out)
  replace K3 := Lib.hid (K3.out.below HBG.out)
  replace HI1 := Lib.hid (HI1.out.below HBG.out)
  replace HI2 := Lib.hid (HI2.out.below HBG.out)
  replace HB := Lib.hid (HB.out.trans (HBG.out.mono HB.out.size))
  refine chain_soft ?_
  intro E hE
  go_wp2
  refine chain_nil (rest_end (by decide) ?_)
  go_wp2_with fail
  clear HIF HBF HBG p2 HR hrl HX HY HZ HI1 HI2
  rw [rounds_succ]
  clear ix0 ix1
  clear K0 K1 K2 K3
  obtain ⟨k0, k1, k2, k3, k4⟩ := row5 HCR.out
  go_wp2_with fail
  clear k0 k1 k2 k3 k4
  refine (to_any c _ _ (H3.out.below HB.out) (by omega)).mono ?_
  rintro e10 wh ⟨vt, rfl, hit, hbq⟩
  replace HCR := Lib.hid (row_on HCR.out hbq)
  replace HB := Lib.hid (HB.out.trans (hbq.mono HB.out.size))
  clear hbq
  have hbs := back_size c
  obtain ⟨r1, r2, r3, hr⟩ : ∃ r1 r2 r3, backE c = (r1, r2, r3) := ⟨_, _, _, rfl⟩
  rw [hr] at hbs
  simp only at hbs
  have HR := Lib.hid hr
  clear hr
  obtain ⟨hbs1, hbs2⟩ := hbs
  go_wp2_with fail
  refine (go_Back c _ _ hit).mono ?_
  rintro ewi wi ⟨axP, cxP, ayP, cyP, rfl, hi1, hi2, hbq⟩
  rw [HR.out] at hi1 hi2 ⊢
  simp only at hi1 hi2 ⊢
  replace HCR := Lib.hid (row_on HCR.out hbq)
  replace HB := Lib.hid (HB.out.trans (hbq.mono HB.out.size))
  have IP1 := Lib.hid hi1.any
  have IP2 := Lib.hid hi2.any
  clear hi1 hi2 hbq
  go_upto_region 16 with fail
  obtain ⟨t0, t1, tsz, tbl⟩ := two wi (.cells #[.int .i64 r1.k, .int .i64 r1.n, .string r1.s, .slice axP r1.args.length cxP] 30 (0, 0)) (.cells #[.int .i64 r2.k, .int .i64 r2.n, .string r2.s, .slice ayP r2.args.length cyP] 30 (0, 0))
  replace HCR := Lib.hid (row_on HCR.out tbl)
  replace IP1 := Lib.hid (IP1.out.below tbl)
  replace IP2 := Lib.hid (IP2.out.below tbl)
  replace HB := Lib.hid (HB.out.trans (tbl.mono HB.out.size))
  have RP1 := Lib.hid t0
  have RP2 := Lib.hid t1
  clear t0 t1 tsz tbl
  generalize (wi.alloc (.cells #[.int .i64 r1.k, .int .i64 r1.n, .string r1.s, .slice axP r1.args.length cxP] 30 (0, 0))).alloc (.cells #[.int .i64 r2.k, .int .i64 r2.n, .string r2.s, .slice ayP r2.args.length cyP] 30 (0, 0)) = Wi at *
  obtain ⟨k0, k1, k2, k3, k4⟩ := row5 HCR.out
  go_wp2_with fail
  clear k0 k1 k2 k3 k4
  refine (ref_Back c _ _ (H3.out.below HB.out)).mono ?_
  rintro ewj wj ⟨axQ, cxQ, ayQ, cyQ, rfl, hi1, hi2, hbq⟩
  rw [HR.out] at hi1 hi2 ⊢
  simp only at hi1 hi2 ⊢
  replace HCR := Lib.hid (row_on HCR.out hbq)
  replace RP1 := Lib.hid (row_on RP1.out hbq)
  replace RP2 := Lib.hid (row_on RP2.out hbq)
  replace IP1 := Lib.hid (IP1.out.below hbq)
  replace IP2 := Lib.hid (IP2.out.below hbq)
  replace HB := Lib.hid (HB.out.trans (hbq.mono HB.out.size))
  have IQ1 := Lib.hid hi1.any
  have IQ2 := Lib.hid hi2.any
  clear hi1 hi2 hbq
  go_upto_region 17 with fail
  obtain ⟨t0, t1, tsz, tbl⟩ := two wj (.cells #[.int .i64 r1.k, .int .i64 r1.n, .string r1.s, .slice axQ r1.args.length cxQ] 30 (0, 0)) (.cells #[.int .i64 r2.k, .int .i64 r2.n, .string r2.s, .slice ayQ r2.args.length cyQ] 30 (0, 0))
  replace HCR := Lib.hid (row_on HCR.out tbl)
  replace RP1 := Lib.hid (row_on RP1.out tbl)
  replace RP2 := Lib.hid (row_on RP2.out tbl)
  replace IP1 := Lib.hid (IP1.out.below tbl)
  replace IP2 := Lib.hid (IP2.out.below tbl)
  replace IQ1 := Lib.hid (IQ1.out.below tbl)
  replace IQ2 := Lib.hid (IQ2.out.below tbl)
  replace HB := Lib.hid (HB.out.trans (tbl.mono HB.out.size))
  have RQ1 := Lib.hid t0
  have RQ2 := Lib.hid t1
  clear t0 t1 tsz tbl
  generalize (wj.alloc (.cells #[.int .i64 r1.k, .int .i64 r1.n, .string r1.s, .slice axQ r1.args.length cxQ] 30 (0, 0))).alloc (.cells #[.int .i64 r2.k, .int .i64 r2.n, .string r2.s, .slice ayQ r2.args.length cyQ] 30 (0, 0)) = Wj at *
  have p3 : (r3 == r3) = true := by simp
  obtain ⟨x0, x1, x2, x3⟩ := row4 RP1.out
  obtain ⟨y0, y1, y2, y3⟩ := row4 RQ1.out
  go_wp2_with fail
  refine (same_me9 (by omega) _ _ _ _ _ IP1.out IQ1.out).mono ?_
  rintro e11 wk ⟨rfl, hbq⟩
  replace HCR := Lib.hid (row_on HCR.out hbq)
  replace RP1 := Lib.hid (row_on RP1.out hbq)
  replace RP2 := Lib.hid (row_on RP2.out hbq)
  replace RQ1 := Lib.hid (row_on RQ1.out hbq)
  replace RQ2 := Lib.hid (row_on RQ2.out hbq)
  replace IP1 := Lib.hid (IP1.out.below hbq)
  replace IP2 := Lib.hid (IP2.out.below hbq)
  replace IQ1 := Lib.hid (IQ1.out.below hbq)
  replace IQ2 := Lib.hid (IQ2.out.below hbq)
  replace HB := Lib.hid (HB.out.trans (hbq.mono HB.out.size))
  clear hbq x0 x1 x2 x3 y0 y1 y2 y3
  obtain ⟨x0, x1, x2, x3⟩ := row4 RP2.out
  obtain ⟨y0, y1, y2, y3⟩ := row4 RQ2.out
  go_wp2_with fail
  refine (same_me9 (by omega) _ _ _ _ _ IP2.out IQ2.out).mono ?_
  rintro e12 wl ⟨rfl, hbq⟩
  replace HCR := Lib.hid (row_on HCR.out hbq)
  replace RP1 := Lib.hid (row_on RP1.out hbq)
  replace RP2 := Lib.hid (row_on RP2.out hbq)
  replace RQ1 := Lib.hid (row_on RQ1.out hbq)
  replace RQ2 := Lib.hid (row_on RQ2.out hbq)
  replace IP1 := Lib.hid (IP1.out.below hbq)
  replace IP2 := Lib.hid (IP2.out.below hbq)
  replace IQ1 := Lib.hid (IQ1.out.below hbq)
  replace IQ2 := Lib.hid (IQ2.out.below hbq)
  replace HB := Lib.hid (HB.out.trans (hbq.mono HB.out.size))
  clear hbq
  go_wp2
  go_ret
  exact ⟨rfl, HB.out⟩
end Go.Proofs.Ytibjcfbilkkmkaa.Tms
