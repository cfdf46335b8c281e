
/-
  TermParts, walked over the program. Printed by gen_parts.py.
-/
import Derived.Test.YtokhiolimioicaaAl3
import Derived.Test.YtokhiolimioicaaOrd
import Derived.Test.YtokhiolimioicaaAvd
import Derived.Test.YtokhiolimioicaaApP
namespace Go.Proofs.Ytokhiolimioicaa.Tms
open Go Go.RowKit Go.Proofs.Ytokhiolimioicaa.Reg Go.Proofs.Ytokhiolimioicaa.Rws
set_option linter.unusedVariables false

theorem l3_fs (s : ByteArray) (v : Value) (l : List Tm) (w : World) (h : IsSl w AnyB v l) : Calls Try.prog 28 #[.string s, v] w fun e w' => ∃ u, e = .returned u ∧ IsTm w' AnyB u (compT s l) ∧ Below w.heap.size w w' := by
  obtain ⟨a, c, rfl⟩ := h.form
  refine (l3_f s a l.length c w).mono ?_
  rintro e w' ⟨rfl, hb⟩
  exact ⟨_, rfl, comp_is (h.below hb), hb⟩
theorem tm_DeepT (t : Tm) (v : Value) (P : Nat → Prop) (w : World) (hM : t.size ≤ 1000000000) (h : IsTm w P v t) : Calls Try.prog 21 #[v] w fun e w' => e = .returned (.int .i64 (deepT t)) ∧ Below w.heap.size w w' := by
  have := tm_Deep t v P w hM h
  rwa [msT_eq] at this

theorem parts_size (X Y : Tm) : (compT (⟨#[102]⟩ : ByteArray) [X, Y]).size = X.size + Y.size + 1 := by simp only [compT, Tm.size, sizeL]; omega
theorem parts_deep (X Y : Tm) : deepT (compT (⟨#[102]⟩ : ByteArray) [X, Y]) = max (deepT X) (deepT Y) + 1 := by simp only [compT, deepT, deepL]; omega
theorem parts_less (X Y : Tm) : cmpT (compT (⟨#[122, 122, 122]⟩ : ByteArray) [X]) (compT (⟨#[102]⟩ : ByteArray) [X, Y]) = -1 := by
  rw [cmpT_lex, cmpHead_lex]
  rfl
theorem fg_less : cmpHead (compT (⟨#[102]⟩ : ByteArray) []) (compT (⟨#[103]⟩ : ByteArray) []) = -1 := by decide +kernel
theorem parts_fg (X Y : Tm) : cmpT (compT (⟨#[102]⟩ : ByteArray) [X]) (compT (⟨#[103]⟩ : ByteArray) [Y]) = -1 := by
  have e : cmpHead (compT (⟨#[102]⟩ : ByteArray) [X]) (compT (⟨#[103]⟩ : ByteArray) [Y]) = cmpHead (compT (⟨#[102]⟩ : ByteArray) []) (compT (⟨#[103]⟩ : ByteArray) []) := by simp [cmpHead, compT, Tm.k, Tm.n, Tm.s, Tm.args, cmpI]
  rw [cmpT_lex, e, fg_less]
  rfl
theorem head_ff (l m : List Tm) (h : l.length = m.length) : cmpHead (compT (⟨#[102]⟩ : ByteArray) l) (compT (⟨#[102]⟩ : ByteArray) m) = 0 := by
  have e : cmpHead (compT (⟨#[102]⟩ : ByteArray) l) (compT (⟨#[102]⟩ : ByteArray) m) = cmpHead (compT (⟨#[102]⟩ : ByteArray) []) (compT (⟨#[102]⟩ : ByteArray) []) := by simp [cmpHead, compT, Tm.k, Tm.n, Tm.s, Tm.args, h, cmpI]
  rw [e]
  decide +kernel
theorem parts_order (X Y : Tm) : cmpT (compT (⟨#[102]⟩ : ByteArray) [X, Y]) (compT (⟨#[102]⟩ : ByteArray) [Y, X]) = cmpT (compT (⟨#[102]⟩ : ByteArray) [X]) (compT (⟨#[102]⟩ : ByteArray) [Y]) := by
  rw [cmpT_lex, cmpT_lex (compT (⟨#[102]⟩ : ByteArray) [X]), head_ff [X, Y] [Y, X] rfl, head_ff [X] [Y] rfl]
  show lex 0 (cmpL [X, Y] [Y, X]) = lex 0 (cmpL [X] [Y])
  rw [cmpL_cons, cmpL_cons, cmpL_cons, cmpT_neg Y X]
  have z : cmpL [] [] = 0 := by simp [cmpL]
  rw [z]
  unfold lex
  repeat' split
  all_goals omega
theorem goodT_ok (L : List Pt) : (goodT L).ok = true := mendT_ok _
theorem comp_ok (s : ByteArray) (l : List Tm) (h : okL l = true) : (compT s l).ok = true := by simp [compT, Tm.ok, h]

set_option maxRecDepth 100000 in
set_option maxHeartbeats 4000000 in
theorem law_parts (L M : List Pt) (v1 v2 : Value) (w : World) (h1 : PtSl w v1 L) (h2 : PtSl w v2 M) : Calls Try.prog 6 #[v1, v2] w (Says true w) := by
  obtain ⟨a1, c1, rfl, hc1, hm1⟩ := h1.form
  obtain ⟨a2, c2, rfl, hc2, hm2⟩ := h2.form
  have H1 := Lib.hid h1
  have H2 := Lib.hid h2
  clear h1 h2
  by_cases g1 : 60 < L.length
  · have d1 : decide (60 < (L.length : Int)) = true := by simp; omega
    go_enter Try.func6, Try.ntmps6
    go_wp2_with (first
      | (go_at_call 14; refine (l3_alive _).mono ?_; rintro e1 w1 ⟨rfl, hb1⟩; have HB := Lib.hid hb1; clear hb1)
      | (refine (ref_great L _ _ (H1.out.below HB.out)).mono ?_; rintro e2 w2 ⟨rfl, rfl⟩))
    go_ret
    exact ⟨rfl, HB.out⟩
  have d1 : decide (60 < (L.length : Int)) = false := by simp; omega
  by_cases g2 : 60 < M.length
  · have d2 : decide (60 < (M.length : Int)) = true := by simp; omega
    go_enter Try.func6, Try.ntmps6
    go_wp2_with fail
    refine (l3_alive _).mono ?_; rintro e1 w1 ⟨rfl, hb1⟩; have HB := Lib.hid hb1; clear hb1
    go_wp2_with fail
    refine (ref_great L _ _ (H1.out.below HB.out)).mono ?_; rintro e2 w2 ⟨rfl, rfl⟩
    go_wp2_with fail
    refine (ref_great M _ _ (H2.out.below HB.out)).mono ?_; rintro e2 w2 ⟨rfl, rfl⟩
    go_wp2
    go_ret
    exact ⟨rfl, HB.out⟩
  have d2 : decide (60 < (M.length : Int)) = false := by simp; omega
  have z1 := goodT_size L
  have z2 := goodT_size M
  go_enter Try.func6, Try.ntmps6
  go_wp2_with fail
  refine (l3_alive _).mono ?_; rintro e1 w1 ⟨rfl, hb1⟩; have HB := Lib.hid hb1; clear hb1
  go_wp2_with fail
  refine (ref_great L _ _ (H1.out.below HB.out)).mono ?_; rintro e2 w2 ⟨rfl, rfl⟩
  go_wp2_with fail
  refine (ref_great M _ _ (H2.out.below HB.out)).mono ?_; rintro e2 w2 ⟨rfl, rfl⟩
  go_wp2_with fail
  refine (ref_good L _ _ (by omega) (H1.out.below HB.out)).mono ?_
  rintro e3 w3 ⟨v3, rfl, hi3, hb3⟩
  obtain ⟨b1, k1, rfl⟩ := hi3.form
  have HX := Lib.hid hi3.any
  have HB3 := Lib.hid (HB.out.trans (hb3.mono HB.out.size))
  clear hi3 hb3
  go_wp2_with fail
  refine (ref_good M _ _ (by omega) (H2.out.below HB3.out)).mono ?_
  rintro e4 w4 ⟨v4, rfl, hi4, hb4⟩
  obtain ⟨b2, k2, rfl⟩ := hi4.form
  have HY := Lib.hid hi4.any
  have HX4 := Lib.hid (HX.out.below hb4)
  have HB4 := Lib.hid (HB3.out.trans (hb4.mono HB3.out.size))
  clear hi4 hb4 HX HB HB3 H1 H2
  have o1 := goodT_ok L
  have o2 := goodT_ok M
  generalize goodT L = X at *
  generalize goodT M = Y at *
  have hX : X.size ≤ 1000 := by omega
  have hY : Y.size ≤ 1000 := by omega
  have O1 := Lib.hid o1
  have O2 := Lib.hid o2
  clear z1 z2 o1 o2
  go_wp2
  obtain ⟨r0, r1, rsz, rbl⟩ := two w4 (.cells #[.int .i64 X.k, .int .i64 X.n, .string X.s, .slice b1 X.args.length k1] 27 (0, 0)) (.cells #[.int .i64 Y.k, .int .i64 Y.n, .string Y.s, .slice b2 Y.args.length k2] 27 (0, 0))
  generalize ((w4.alloc (.cells #[.int .i64 X.k, .int .i64 X.n, .string X.s, .slice b1 X.args.length k1] 27 (0, 0))).alloc (.cells #[.int .i64 Y.k, .int .i64 Y.n, .string Y.s, .slice b2 Y.args.length k2] 27 (0, 0))) = W at *
  refine wp_region_rest (by kernel_rfl) ?_
  have hd : Below w4.heap.size w4 W.drew := rbl.drew
  have hr0 : W.drew.heap[w4.heap.size]? = _ := r0
  have hr1 : W.drew.heap[w4.heap.size + 1]? = _ := r1
  have hsz : W.drew.heap.size = w4.heap.size + 2 := rsz
  have HXW := Lib.hid (HX4.out.below hd)
  have HYW := Lib.hid (HY.out.below hd)
  have HB := Lib.hid (HB4.out.trans (hd.mono HB4.out.size))
  have HR0 := Lib.hid hr0
  have HR1 := Lib.hid hr1
  have HL : Hid (w.heap.size ≤ w4.heap.size) := Lib.hid HB4.out.size
  have hl0 : w4.heap.size < W.drew.heap.size := by omega
  have hl1 : w4.heap.size + 1 < W.drew.heap.size := by omega
  clear hd hr0 hr1 hsz r0 r1 rsz rbl HX4 HY HB4
  generalize W.drew = W0 at *
  generalize w4.heap.size = p at *
  refine rest_opsL 0 9 83 [_, _, _, _, _, _, _, _, _] (pk 0 [isV ?a1_0, isV ?a1_1, fun v u => IsSl u AnyB v [X, Y], fun v u => IsTm u AnyB v (compT (⟨#[102]⟩ : ByteArray) [X, Y]), isV ?a1_4, fun v u => IsSl u AnyB v [X], fun v u => IsTm u AnyB v (compT (⟨#[122, 122, 122]⟩ : ByteArray) [X]), fun v u => NewVar W0.heap.size #[.int .i64 0, .int .i64 0, .string ⟨#[]⟩, .slice none 0 0] 27 v u, fun v u => NewVar W0.heap.size #[.int .i64 0, .int .i64 0, .string ⟨#[]⟩, .slice none 0 0] 27 v u]) (fun j => match j with | 7 => ptrBlk | 8 => ptrBlk | _ => fun _ => none) rfl (by kernel_rfl) (by kernel_rfl) rfl (.inr (by kernel_rfl)) ?hS1 ?hop1 ?_
  case hop1 =>
    refine hops_cons ?_ ?_
    · intro v u hu hs Q' hQ
      simp only [putAll, dstOf]
      have y := row4 ((hu.block _ hl0).trans HR0.out)
      have f0 := y.1
      have f1 := y.2.1
      have f2 := y.2.2.1
      have f3 := y.2.2.2
      clear y
      have z := row4 ((hu.block _ hl1).trans HR1.out)
      have f4 := z.1
      have f5 := z.2.1
      have f6 := z.2.2.1
      have f7 := z.2.2.2
      clear z
      clear hs
      go_wp2
      exact ⟨rfl, Below.refl _ _, by (show _ = _; rfl), fun _ h => nomatch h⟩
    refine hops_cons ?_ ?_
    · intro v u hu hs Q' hQ
      simp only [putAll, dstOf]
      have y := row4 ((hu.block _ hl0).trans HR0.out)
      have f0 := y.1
      have f1 := y.2.1
      have f2 := y.2.2.1
      have f3 := y.2.2.2
      clear y
      have z := row4 ((hu.block _ hl1).trans HR1.out)
      have f4 := z.1
      have f5 := z.2.1
      have f6 := z.2.2.1
      have f7 := z.2.2.2
      clear z
      clear hs
      go_wp2
      exact ⟨rfl, Below.refl _ _, by (show _ = _; rfl), fun _ h => nomatch h⟩
    refine hops_cons ?_ ?_
    · intro v u hu hs Q' hQ
      simp only [putAll, dstOf]
      have s_0 : v 0 = _ := hs 0 (by kernel_rfl) (by decide) (by decide)
      have s_1 : v 1 = _ := hs 1 (by kernel_rfl) (by decide) (by decide)
      clear hs
      go_wp2
      exact ⟨rfl, (Below.refl _ _).alloc (Nat.le_refl _) _, row2 (HXW.out.below hu) (HYW.out.below hu), fun _ h => nomatch h⟩
    refine hops_cons ?_ ?_
    · intro v u hu hs Q' hQ
      simp only [putAll, dstOf]
      have s_2 : IsSl u AnyB (v 2) [X, Y] := hs 2 (by kernel_rfl) (by decide) (by decide)
      have y := row4 ((hu.block _ hl0).trans HR0.out)
      have f0 := y.1
      have f1 := y.2.1
      have f2 := y.2.2.1
      have f3 := y.2.2.2
      clear y
      have z := row4 ((hu.block _ hl1).trans HR1.out)
      have f4 := z.1
      have f5 := z.2.1
      have f6 := z.2.2.1
      have f7 := z.2.2.2
      clear z
      clear hs
      go_wp2_with (go_at_call 28; refine (l3_fs _ _ _ _ s_2).mono ?_; rintro e1 w1 ⟨v1, rfl, hi1, hb1⟩)
      exact ⟨rfl, hb1, hi1, fun _ h => nomatch h⟩
    refine hops_cons ?_ ?_
    · intro v u hu hs Q' hQ
      simp only [putAll, dstOf]
      have y := row4 ((hu.block _ hl0).trans HR0.out)
      have f0 := y.1
      have f1 := y.2.1
      have f2 := y.2.2.1
      have f3 := y.2.2.2
      clear y
      have z := row4 ((hu.block _ hl1).trans HR1.out)
      have f4 := z.1
      have f5 := z.2.1
      have f6 := z.2.2.1
      have f7 := z.2.2.2
      clear z
      clear hs
      go_wp2
      exact ⟨rfl, Below.refl _ _, by (show _ = _; rfl), fun _ h => nomatch h⟩
    refine hops_cons ?_ ?_
    · intro v u hu hs Q' hQ
      simp only [putAll, dstOf]
      have s_4 : v 4 = _ := hs 4 (by kernel_rfl) (by decide) (by decide)
      clear hs
      go_wp2
      exact ⟨rfl, (Below.refl _ _).alloc (Nat.le_refl _) _, row1 (HXW.out.below hu), fun _ h => nomatch h⟩
    refine hops_cons ?_ ?_
    · intro v u hu hs Q' hQ
      simp only [putAll, dstOf]
      have s_3 : IsTm u AnyB (v 3) (compT (⟨#[102]⟩ : ByteArray) [X, Y]) := hs 3 (by kernel_rfl) (by decide) (by decide)
      have s_5 : IsSl u AnyB (v 5) [X] := hs 5 (by kernel_rfl) (by decide) (by decide)
      have y := row4 ((hu.block _ hl0).trans HR0.out)
      have f0 := y.1
      have f1 := y.2.1
      have f2 := y.2.2.1
      have f3 := y.2.2.2
      clear y
      have z := row4 ((hu.block _ hl1).trans HR1.out)
      have f4 := z.1
      have f5 := z.2.1
      have f6 := z.2.2.1
      have f7 := z.2.2.2
      clear z
      clear hs
      go_wp2_with (go_at_call 28; refine (l3_fs _ _ _ _ s_5).mono ?_; rintro e1 w1 ⟨v1, rfl, hi1, hb1⟩)
      exact ⟨rfl, hb1, hi1, fun _ h => nomatch h⟩
    refine hops_cons ?_ ?_
    · intro v u hu hs Q' hQ
      simp only [putAll, dstOf]
      clear hs
      go_wp2
      exact NewVar.made hu rfl rfl
    refine hops_cons ?_ ?_
    · intro v u hu hs Q' hQ
      simp only [putAll, dstOf]
      clear hs
      go_wp2
      exact NewVar.made hu rfl rfl
    exact hops_nil
  case hS1 =>
    intro j v u u' hkj hjn h hb
    match j, hkj, hjn, h with
    | 0, _, _, h => exact h
    | 1, _, _, h => exact h
    | 2, _, _, h => exact h.below hb
    | 3, _, _, h => exact h.below hb
    | 4, _, _, h => exact h
    | 5, _, _, h => exact h.below hb
    | 6, _, _, h => exact h.below hb
    | 7, _, _, h => exact h.below hb
    | 8, _, _, h => exact h.below hb
    | q + 9, _, hq, _ => exact absurd hq (by omega)
  intro v u hu hs hap
  have s_0 : v 0 = _ := hs 0 (by decide) (by decide)
  have s_1 : v 1 = _ := hs 1 (by decide) (by decide)
  have s_2 : IsSl u AnyB (v 2) [X, Y] := hs 2 (by decide) (by decide)
  have s_3 : IsTm u AnyB (v 3) (compT (⟨#[102]⟩ : ByteArray) [X, Y]) := hs 3 (by decide) (by decide)
  have s_4 : v 4 = _ := hs 4 (by decide) (by decide)
  have s_5 : IsSl u AnyB (v 5) [X] := hs 5 (by decide) (by decide)
  have s_6 : IsTm u AnyB (v 6) (compT (⟨#[122, 122, 122]⟩ : ByteArray) [X]) := hs 6 (by decide) (by decide)
  have s_7 : NewVar W0.heap.size #[.int .i64 0, .int .i64 0, .string ⟨#[]⟩, .slice none 0 0] 27 (v 7) u := hs 7 (by decide) (by decide)
  have s_8 : NewVar W0.heap.size #[.int .i64 0, .int .i64 0, .string ⟨#[]⟩, .slice none 0 0] 27 (v 8) u := hs 8 (by decide) (by decide)
  simp only [putAll, dstOf]
  obtain ⟨b7, e7, nb7, nh7⟩ := s_7
  obtain ⟨b8, e8, nb8, nh8⟩ := s_8
  have hne : b7 ≠ b8 := fun e => hap 7 8 (by decide) (by decide) (by decide) (by decide) (by decide) b7 (by show ptrBlk (v 7) = _; rw [e7]; rfl) (by show ptrBlk (v 8) = _; rw [e8, e]; rfl)
  have hFok : (compT (⟨#[102]⟩ : ByteArray) [X, Y]).ok = true := comp_ok _ _ (by simp [okL, O1.out, O2.out])
  have hZok : (compT (⟨#[122, 122, 122]⟩ : ByteArray) [X]).ok = true := comp_ok _ _ (by simp [okL, O1.out])
  have HFS := Lib.hid (parts_size X Y)
  have HFD := Lib.hid (parts_deep X Y)
  have HCZ := Lib.hid (parts_less X Y)
  have HFG := Lib.hid (parts_fg X Y)
  have HFF := Lib.hid (parts_order X Y)
  have hZs : (compT (⟨#[122, 122, 122]⟩ : ByteArray) [X]).size ≤ 2000 := by simp only [compT, Tm.size, sizeL]; omega
  obtain ⟨F, hF⟩ : ∃ F, F = compT (⟨#[102]⟩ : ByteArray) [X, Y] := ⟨_, rfl⟩
  obtain ⟨Z, hZ⟩ : ∃ Z, Z = compT (⟨#[122, 122, 122]⟩ : ByteArray) [X] := ⟨_, rfl⟩
  rw [← hF] at s_3 hFok HFS HFD HCZ
  rw [← hZ] at s_6 hZok hZs HCZ
  have hFs : F.size ≤ 2100 := by have := HFS.out; omega
  clear hF hZ
  obtain ⟨a2, q2, e2⟩ := s_2.form
  obtain ⟨a5, q5, e5⟩ := s_5.form
  obtain ⟨ax, cx, ex⟩ := s_3.form
  obtain ⟨az, cz, ez⟩ := s_6.form
  rw [ex] at s_3
  rw [ez] at s_6
  have F1 := Lib.hid ((s_3.avoid nh7 hFok).avoid nh8 hFok)
  have Z1 := Lib.hid ((s_6.avoid nh7 hZok).avoid nh8 hZok)
  have X1 := Lib.hid (((HXW.out.below hu).avoid nh7 O1.out).avoid nh8 O1.out)
  have Y1 := Lib.hid (((HYW.out.below hu).avoid nh7 O2.out).avoid nh8 O2.out)
  have hb7 : w.heap.size ≤ b7 := Nat.le_trans HB.out.size nb7
  have hb8 : w.heap.size ≤ b8 := Nat.le_trans HB.out.size nb8
  replace HB := Lib.hid (HB.out.trans (hu.mono HB.out.size))
  have HNE := Lib.hid hne
  have N7 := Lib.hid nh7
  have N8 := Lib.hid nh8
  have R0 := Lib.hid ((hu.block _ hl0).trans HR0.out)
  have R1 := Lib.hid ((hu.block _ hl1).trans HR1.out)
  have np7 : p ≠ b7 := by omega
  have np8 : p ≠ b8 := by omega
  have nq7 : p + 1 ≠ b7 := by omega
  have nq8 : p + 1 ≠ b8 := by omega
  clear hs hap hu s_2 s_5 s_3 s_6 hFok hZok HXW HYW HR0 HR1 HL hl0 hl1 nb7 nb8 nh7 nh8 hne O1 O2
  refine rest_lineL 9 11 [_, _] rfl (by kernel_rfl) (by decide) (by decide) (by kernel_rfl) ?_
  simp only [Act.put, List.getElem?_toArray, List.getElem?_cons_succ, List.getElem?_cons_zero, Option.bind_some, List.setIfInBounds_toArray, List.set_cons_succ, List.set_cons_zero, Nat.reduceAdd, s_0, s_1, e2, ex, s_4, e5, ez, e7, e8]
  go_wp2_with (first
    | (with_reducible show wpList _ _ _ (⟨none, .store _ (.tmp 7) _, _, _, _, _⟩ :: _) _ _
       refine wpList_store_row rfl 27 (.tmp 7) (.tmp 24) rfl b7 #[.int .i64 F.k, .int .i64 F.n, .string F.s, .slice ax F.args.length cx] rfl rfl _ _ N7.out size_term rfl (one4 _ _ _ _ _ _) ?_)
    | (refine wpList_store_row rfl 27 (.tmp 8) (.tmp 27) rfl b8 #[.int .i64 Z.k, .int .i64 Z.n, .string Z.s, .slice az Z.args.length cz] rfl rfl _ _ ((setRow_other _ _ _ _ (Ne.symm HNE.out)).trans N8.out) size_term rfl (one4 _ _ _ _ _ _) ?_))
  have rx : ((u.setRow b7 #[.int .i64 F.k, .int .i64 F.n, .string F.s, .slice ax F.args.length cx]).setRow b8 #[.int .i64 Z.k, .int .i64 Z.n, .string Z.s, .slice az Z.args.length cz]).heap[b7]? = _ := (setRow_other _ _ _ _ HNE.out).trans (setRow_heap u b7 _ (#[.int .i64 F.k, .int .i64 F.n, .string F.s, .slice ax F.args.length cx] : Array Value) _ _ N7.out)
  have rz : ((u.setRow b7 #[.int .i64 F.k, .int .i64 F.n, .string F.s, .slice ax F.args.length cx]).setRow b8 #[.int .i64 Z.k, .int .i64 Z.n, .string Z.s, .slice az Z.args.length cz]).heap[b8]? = _ := setRow_heap _ b8 _ (#[.int .i64 Z.k, .int .i64 Z.n, .string Z.s, .slice az Z.args.length cz] : Array Value) _ _ ((setRow_other _ _ _ _ (Ne.symm HNE.out)).trans N8.out)
  have hsame : ∀ b, b ≠ b7 → b ≠ b8 → ((u.setRow b7 #[.int .i64 F.k, .int .i64 F.n, .string F.s, .slice ax F.args.length cx]).setRow b8 #[.int .i64 Z.k, .int .i64 Z.n, .string Z.s, .slice az Z.args.length cz]).heap[b]? = u.heap[b]? := fun b h1 h2 => (setRow_other _ _ _ _ h2).trans (setRow_other _ _ _ _ h1)
  have hbw : Below w.heap.size w ((u.setRow b7 #[.int .i64 F.k, .int .i64 F.n, .string F.s, .slice ax F.args.length cx]).setRow b8 #[.int .i64 Z.k, .int .i64 Z.n, .string Z.s, .slice az Z.args.length cz]) := below_setRow (below_setRow HB.out hb7 _) hb8 _
  have fW : IsTm _ AnyB _ F := (F1.out.imp (fun _ h => h) fun b h _ => hsame b h.1.2 h.2).any
  have zW : IsTm _ AnyB _ Z := (Z1.out.imp (fun _ h => h) fun b h _ => hsame b h.1.2 h.2).any
  have xW : IsTm _ AnyB _ X := (X1.out.imp (fun _ h => h) fun b h _ => hsame b h.1.2 h.2).any
  have yW : IsTm _ AnyB _ Y := (Y1.out.imp (fun _ h => h) fun b h _ => hsame b h.1.2 h.2).any
  have q0 := (hsame _ np7 np8).trans R0.out
  have q1 := (hsame _ nq7 nq8).trans R1.out
  generalize (u.setRow b7 #[.int .i64 F.k, .int .i64 F.n, .string F.s, .slice ax F.args.length cx]).setRow b8 #[.int .i64 Z.k, .int .i64 Z.n, .string Z.s, .slice az Z.args.length cz] = W2 at *
  have hcells : Cells [(p, 0, .int .i64 X.k), (p, 1, .int .i64 X.n), (p, 2, .string X.s), (p, 3, .slice b1 X.args.length k1), ((p + 1), 0, .int .i64 Y.k), ((p + 1), 1, .int .i64 Y.n), ((p + 1), 2, .string Y.s), ((p + 1), 3, .slice b2 Y.args.length k2), (b7, 0, .int .i64 F.k), (b7, 1, .int .i64 F.n), (b7, 2, .string F.s), (b7, 3, .slice ax F.args.length cx), (b8, 0, .int .i64 Z.k), (b8, 1, .int .i64 Z.n), (b8, 2, .string Z.s), (b8, 3, .slice az Z.args.length cz)] W2 :=
    let r0 := row4 q0; let r1 := row4 q1; let r2 := row4 rx; let r3 := row4 rz; ⟨r0.1, r0.2.1, r0.2.2.1, r0.2.2.2, r1.1, r1.2.1, r1.2.2.1, r1.2.2.2, r2.1, r2.2.1, r2.2.2.1, r2.2.2.2, r3.1, r3.2.1, r3.2.2.1, r3.2.2.2, trivial⟩
  refine then_rest (rest_end (by decide) ?_)
  go_wp2
  refine wp_region_rest (by kernel_rfl) ?_
  have hd8 : Below W2.heap.size W2 W2.drew := (Below.refl _ _).drew
  have HC := Lib.hid (hcells.below hd8)
  have HFW := Lib.hid (fW.below hd8)
  have HZW := Lib.hid (zW.below hd8)
  have HXW := Lib.hid (xW.below hd8)
  have HYW := Lib.hid (yW.below hd8)
  replace HB := Lib.hid hbw.drew
  clear rx rz hsame hbw fW zW xW yW hcells hd8 N7 N8 HNE F1 Z1 X1 Y1 R0 R1 q0 q1 np7 np8 nq7 nq8 hb7 hb8 s_0 s_1 s_4 e2 e5 ex ez e7 e8
  clear v
  generalize W2.drew = W0 at *
  refine rest_opsL 0 5 83 [_, _, _, _, _] (pk 0 [isV ?a2_0, isV (.int .i64 F.size), isV ?a2_2, isV (.int .i64 X.size), isV ?a2_4]) (fun _ _ => none) rfl (by kernel_rfl) (by kernel_rfl) rfl (.inr (by kernel_rfl)) ?hS2 ?hop2 ?_
  case hop2 =>
    refine hops_cons ?_ ?_
    · intro v u hu hs Q' hQ
      simp only [putAll, dstOf]
      have y := HC.out.below hu
      have f0 := y.1
      have f1 := y.2.1
      have f2 := y.2.2.1
      have f3 := y.2.2.2.1
      have f4 := y.2.2.2.2.1
      have f5 := y.2.2.2.2.2.1
      have f6 := y.2.2.2.2.2.2.1
      have f7 := y.2.2.2.2.2.2.2.1
      have f8 := y.2.2.2.2.2.2.2.2.1
      have f9 := y.2.2.2.2.2.2.2.2.2.1
      have f10 := y.2.2.2.2.2.2.2.2.2.2.1
      have f11 := y.2.2.2.2.2.2.2.2.2.2.2.1
      have f12 := y.2.2.2.2.2.2.2.2.2.2.2.2.1
      have f13 := y.2.2.2.2.2.2.2.2.2.2.2.2.2.1
      have f14 := y.2.2.2.2.2.2.2.2.2.2.2.2.2.2.1
      have f15 := y.2.2.2.2.2.2.2.2.2.2.2.2.2.2.2.1
      clear y
      clear hs
      go_wp2
      exact ⟨rfl, Below.refl _ _, by (show _ = _; rfl), fun _ h => nomatch h⟩
    refine hops_cons ?_ ?_
    · intro v u hu hs Q' hQ
      simp only [putAll, dstOf]
      have s_0 : v 0 = _ := hs 0 (by kernel_rfl) (by decide) (by decide)
      have y := HC.out.below hu
      have f0 := y.1
      have f1 := y.2.1
      have f2 := y.2.2.1
      have f3 := y.2.2.2.1
      have f4 := y.2.2.2.2.1
      have f5 := y.2.2.2.2.2.1
      have f6 := y.2.2.2.2.2.2.1
      have f7 := y.2.2.2.2.2.2.2.1
      have f8 := y.2.2.2.2.2.2.2.2.1
      have f9 := y.2.2.2.2.2.2.2.2.2.1
      have f10 := y.2.2.2.2.2.2.2.2.2.2.1
      have f11 := y.2.2.2.2.2.2.2.2.2.2.2.1
      have f12 := y.2.2.2.2.2.2.2.2.2.2.2.2.1
      have f13 := y.2.2.2.2.2.2.2.2.2.2.2.2.2.1
      have f14 := y.2.2.2.2.2.2.2.2.2.2.2.2.2.2.1
      have f15 := y.2.2.2.2.2.2.2.2.2.2.2.2.2.2.2.1
      clear y
      clear hs
      go_wp2_with (go_at_call 19; have hh := tm_Size F _ _ _ (by omega) (HFW.out.below hu); refine hh.mono ?_; clear hh; rintro e1 w1 ⟨rfl, hb1⟩)
      exact ⟨rfl, hb1, rfl, fun _ h => nomatch h⟩
    refine hops_cons ?_ ?_
    · intro v u hu hs Q' hQ
      simp only [putAll, dstOf]
      have y := HC.out.below hu
      have f0 := y.1
      have f1 := y.2.1
      have f2 := y.2.2.1
      have f3 := y.2.2.2.1
      have f4 := y.2.2.2.2.1
      have f5 := y.2.2.2.2.2.1
      have f6 := y.2.2.2.2.2.2.1
      have f7 := y.2.2.2.2.2.2.2.1
      have f8 := y.2.2.2.2.2.2.2.2.1
      have f9 := y.2.2.2.2.2.2.2.2.2.1
      have f10 := y.2.2.2.2.2.2.2.2.2.2.1
      have f11 := y.2.2.2.2.2.2.2.2.2.2.2.1
      have f12 := y.2.2.2.2.2.2.2.2.2.2.2.2.1
      have f13 := y.2.2.2.2.2.2.2.2.2.2.2.2.2.1
      have f14 := y.2.2.2.2.2.2.2.2.2.2.2.2.2.2.1
      have f15 := y.2.2.2.2.2.2.2.2.2.2.2.2.2.2.2.1
      clear y
      clear hs
      go_wp2
      exact ⟨rfl, Below.refl _ _, by (show _ = _; rfl), fun _ h => nomatch h⟩
    refine hops_cons ?_ ?_
    · intro v u hu hs Q' hQ
      simp only [putAll, dstOf]
      have s_1 : v 1 = .int .i64 F.size := hs 1 (by kernel_rfl) (by decide) (by decide)
      have s_2 : v 2 = _ := hs 2 (by kernel_rfl) (by decide) (by decide)
      have y := HC.out.below hu
      have f0 := y.1
      have f1 := y.2.1
      have f2 := y.2.2.1
      have f3 := y.2.2.2.1
      have f4 := y.2.2.2.2.1
      have f5 := y.2.2.2.2.2.1
      have f6 := y.2.2.2.2.2.2.1
      have f7 := y.2.2.2.2.2.2.2.1
      have f8 := y.2.2.2.2.2.2.2.2.1
      have f9 := y.2.2.2.2.2.2.2.2.2.1
      have f10 := y.2.2.2.2.2.2.2.2.2.2.1
      have f11 := y.2.2.2.2.2.2.2.2.2.2.2.1
      have f12 := y.2.2.2.2.2.2.2.2.2.2.2.2.1
      have f13 := y.2.2.2.2.2.2.2.2.2.2.2.2.2.1
      have f14 := y.2.2.2.2.2.2.2.2.2.2.2.2.2.2.1
      have f15 := y.2.2.2.2.2.2.2.2.2.2.2.2.2.2.2.1
      clear y
      clear hs
      go_wp2_with (go_at_call 19; have hh := tm_Size X _ _ _ (by omega) (HXW.out.below hu); refine hh.mono ?_; clear hh; rintro e1 w1 ⟨rfl, hb1⟩)
      exact ⟨rfl, hb1, rfl, fun _ h => nomatch h⟩
    refine hops_cons ?_ ?_
    · intro v u hu hs Q' hQ
      simp only [putAll, dstOf]
      have y := HC.out.below hu
      have f0 := y.1
      have f1 := y.2.1
      have f2 := y.2.2.1
      have f3 := y.2.2.2.1
      have f4 := y.2.2.2.2.1
      have f5 := y.2.2.2.2.2.1
      have f6 := y.2.2.2.2.2.2.1
      have f7 := y.2.2.2.2.2.2.2.1
      have f8 := y.2.2.2.2.2.2.2.2.1
      have f9 := y.2.2.2.2.2.2.2.2.2.1
      have f10 := y.2.2.2.2.2.2.2.2.2.2.1
      have f11 := y.2.2.2.2.2.2.2.2.2.2.2.1
      have f12 := y.2.2.2.2.2.2.2.2.2.2.2.2.1
      have f13 := y.2.2.2.2.2.2.2.2.2.2.2.2.2.1
      have f14 := y.2.2.2.2.2.2.2.2.2.2.2.2.2.2.1
      have f15 := y.2.2.2.2.2.2.2.2.2.2.2.2.2.2.2.1
      clear y
      clear hs
      go_wp2
      exact ⟨rfl, Below.refl _ _, by (show _ = _; rfl), fun _ h => nomatch h⟩
    exact hops_nil
  case hS2 =>
    intro j v u u' hkj hjn h hb
    match j, hkj, hjn, h with
    | 0, _, _, h => exact h
    | 1, _, _, h => exact h
    | 2, _, _, h => exact h
    | 3, _, _, h => exact h
    | 4, _, _, h => exact h
    | q + 5, _, hq, _ => exact absurd hq (by omega)
  intro v u hu hs hap
  have s_0 : v 0 = _ := hs 0 (by decide) (by decide)
  have s_1 : v 1 = .int .i64 F.size := hs 1 (by decide) (by decide)
  have s_2 : v 2 = _ := hs 2 (by decide) (by decide)
  have s_3 : v 3 = .int .i64 X.size := hs 3 (by decide) (by decide)
  have s_4 : v 4 = _ := hs 4 (by decide) (by decide)
  simp only [putAll, dstOf]
  replace HC := Lib.hid (HC.out.below hu)
  replace HXW := Lib.hid (HXW.out.below hu)
  replace HYW := Lib.hid (HYW.out.below hu)
  replace HFW := Lib.hid (HFW.out.below hu)
  replace HZW := Lib.hid (HZW.out.below hu)
  replace HB := Lib.hid (HB.out.trans ((hu).mono HB.out.size))
  clear hs hap hu
  have b8' : ((F.size : Int) == (X.size : Int) + (Y.size : Int) + 1) = true := by have := HFS.out; simp; omega
  refine rest_lineL 5 9 [_, _, _, _] rfl (by kernel_rfl) (by decide) (by decide) (by kernel_rfl) ?_
  go_wp2_with (go_at_call 19
               refine (tm_Size Y _ _ _ (by omega) HYW.out).mono ?_
               rintro e1 w1 ⟨rfl, hb1⟩
               have HU := Lib.hid hb1
               clear hb1)
  replace HC := Lib.hid (HC.out.below HU.out)
  replace HXW := Lib.hid (HXW.out.below HU.out)
  replace HYW := Lib.hid (HYW.out.below HU.out)
  replace HFW := Lib.hid (HFW.out.below HU.out)
  replace HZW := Lib.hid (HZW.out.below HU.out)
  replace HB := Lib.hid (HB.out.trans ((HU.out).mono HB.out.size))
  clear HU s_0 s_1 s_2 s_3 s_4 v b8'
  refine then_rest ?_
  refine rest_opsL 9 15 83 [_, _, _, _, _, _] (pk 9 [isV ?a3_9, isV ?a3_10, isV (.int .i64 (deepT F)), isV ?a3_12, isV (.int .i64 (deepT X)), isV ?a3_14]) (fun _ _ => none) rfl (by kernel_rfl) (by kernel_rfl) rfl (.inr (by kernel_rfl)) ?hS3 ?hop3 ?_
  case hop3 =>
    refine hops_cons ?_ ?_
    · intro v u hu hs Q' hQ
      simp only [putAll, dstOf]
      clear hs
      go_wp2
      exact ⟨rfl, Below.refl _ _, by (show _ = _; rfl), fun _ h => nomatch h⟩
    refine hops_cons ?_ ?_
    · intro v u hu hs Q' hQ
      simp only [putAll, dstOf]
      have s_9 : v 9 = _ := hs 9 (by kernel_rfl) (by decide) (by decide)
      have y := HC.out.below hu
      have f0 := y.1
      have f1 := y.2.1
      have f2 := y.2.2.1
      have f3 := y.2.2.2.1
      have f4 := y.2.2.2.2.1
      have f5 := y.2.2.2.2.2.1
      have f6 := y.2.2.2.2.2.2.1
      have f7 := y.2.2.2.2.2.2.2.1
      have f8 := y.2.2.2.2.2.2.2.2.1
      have f9 := y.2.2.2.2.2.2.2.2.2.1
      have f10 := y.2.2.2.2.2.2.2.2.2.2.1
      have f11 := y.2.2.2.2.2.2.2.2.2.2.2.1
      have f12 := y.2.2.2.2.2.2.2.2.2.2.2.2.1
      have f13 := y.2.2.2.2.2.2.2.2.2.2.2.2.2.1
      have f14 := y.2.2.2.2.2.2.2.2.2.2.2.2.2.2.1
      have f15 := y.2.2.2.2.2.2.2.2.2.2.2.2.2.2.2.1
      clear y
      clear hs
      go_wp2
      exact ⟨rfl, Below.refl _ _, by (show _ = _; rfl), fun _ h => nomatch h⟩
    refine hops_cons ?_ ?_
    · intro v u hu hs Q' hQ
      simp only [putAll, dstOf]
      have s_9 : v 9 = _ := hs 9 (by kernel_rfl) (by decide) (by decide)
      have s_10 : v 10 = _ := hs 10 (by kernel_rfl) (by decide) (by decide)
      have y := HC.out.below hu
      have f0 := y.1
      have f1 := y.2.1
      have f2 := y.2.2.1
      have f3 := y.2.2.2.1
      have f4 := y.2.2.2.2.1
      have f5 := y.2.2.2.2.2.1
      have f6 := y.2.2.2.2.2.2.1
      have f7 := y.2.2.2.2.2.2.2.1
      have f8 := y.2.2.2.2.2.2.2.2.1
      have f9 := y.2.2.2.2.2.2.2.2.2.1
      have f10 := y.2.2.2.2.2.2.2.2.2.2.1
      have f11 := y.2.2.2.2.2.2.2.2.2.2.2.1
      have f12 := y.2.2.2.2.2.2.2.2.2.2.2.2.1
      have f13 := y.2.2.2.2.2.2.2.2.2.2.2.2.2.1
      have f14 := y.2.2.2.2.2.2.2.2.2.2.2.2.2.2.1
      have f15 := y.2.2.2.2.2.2.2.2.2.2.2.2.2.2.2.1
      clear y
      clear hs
      go_wp2_with (go_at_call 21; have hh := tm_DeepT F _ _ _ (by omega) (HFW.out.below hu); refine hh.mono ?_; clear hh; rintro e1 w1 ⟨rfl, hb1⟩)
      exact ⟨rfl, hb1, rfl, fun _ h => nomatch h⟩
    refine hops_cons ?_ ?_
    · intro v u hu hs Q' hQ
      simp only [putAll, dstOf]
      have s_9 : v 9 = _ := hs 9 (by kernel_rfl) (by decide) (by decide)
      have y := HC.out.below hu
      have f0 := y.1
      have f1 := y.2.1
      have f2 := y.2.2.1
      have f3 := y.2.2.2.1
      have f4 := y.2.2.2.2.1
      have f5 := y.2.2.2.2.2.1
      have f6 := y.2.2.2.2.2.2.1
      have f7 := y.2.2.2.2.2.2.2.1
      have f8 := y.2.2.2.2.2.2.2.2.1
      have f9 := y.2.2.2.2.2.2.2.2.2.1
      have f10 := y.2.2.2.2.2.2.2.2.2.2.1
      have f11 := y.2.2.2.2.2.2.2.2.2.2.2.1
      have f12 := y.2.2.2.2.2.2.2.2.2.2.2.2.1
      have f13 := y.2.2.2.2.2.2.2.2.2.2.2.2.2.1
      have f14 := y.2.2.2.2.2.2.2.2.2.2.2.2.2.2.1
      have f15 := y.2.2.2.2.2.2.2.2.2.2.2.2.2.2.2.1
      clear y
      clear hs
      go_wp2
      exact ⟨rfl, Below.refl _ _, by (show _ = _; rfl), fun _ h => nomatch h⟩
    refine hops_cons ?_ ?_
    · intro v u hu hs Q' hQ
      simp only [putAll, dstOf]
      have s_9 : v 9 = _ := hs 9 (by kernel_rfl) (by decide) (by decide)
      have s_11 : v 11 = .int .i64 (deepT F) := hs 11 (by kernel_rfl) (by decide) (by decide)
      have s_12 : v 12 = _ := hs 12 (by kernel_rfl) (by decide) (by decide)
      have y := HC.out.below hu
      have f0 := y.1
      have f1 := y.2.1
      have f2 := y.2.2.1
      have f3 := y.2.2.2.1
      have f4 := y.2.2.2.2.1
      have f5 := y.2.2.2.2.2.1
      have f6 := y.2.2.2.2.2.2.1
      have f7 := y.2.2.2.2.2.2.2.1
      have f8 := y.2.2.2.2.2.2.2.2.1
      have f9 := y.2.2.2.2.2.2.2.2.2.1
      have f10 := y.2.2.2.2.2.2.2.2.2.2.1
      have f11 := y.2.2.2.2.2.2.2.2.2.2.2.1
      have f12 := y.2.2.2.2.2.2.2.2.2.2.2.2.1
      have f13 := y.2.2.2.2.2.2.2.2.2.2.2.2.2.1
      have f14 := y.2.2.2.2.2.2.2.2.2.2.2.2.2.2.1
      have f15 := y.2.2.2.2.2.2.2.2.2.2.2.2.2.2.2.1
      clear y
      clear hs
      go_wp2_with (go_at_call 21; have hh := tm_DeepT X _ _ _ (by omega) (HXW.out.below hu); refine hh.mono ?_; clear hh; rintro e1 w1 ⟨rfl, hb1⟩)
      exact ⟨rfl, hb1, rfl, fun _ h => nomatch h⟩
    refine hops_cons ?_ ?_
    · intro v u hu hs Q' hQ
      simp only [putAll, dstOf]
      have s_9 : v 9 = _ := hs 9 (by kernel_rfl) (by decide) (by decide)
      have y := HC.out.below hu
      have f0 := y.1
      have f1 := y.2.1
      have f2 := y.2.2.1
      have f3 := y.2.2.2.1
      have f4 := y.2.2.2.2.1
      have f5 := y.2.2.2.2.2.1
      have f6 := y.2.2.2.2.2.2.1
      have f7 := y.2.2.2.2.2.2.2.1
      have f8 := y.2.2.2.2.2.2.2.2.1
      have f9 := y.2.2.2.2.2.2.2.2.2.1
      have f10 := y.2.2.2.2.2.2.2.2.2.2.1
      have f11 := y.2.2.2.2.2.2.2.2.2.2.2.1
      have f12 := y.2.2.2.2.2.2.2.2.2.2.2.2.1
      have f13 := y.2.2.2.2.2.2.2.2.2.2.2.2.2.1
      have f14 := y.2.2.2.2.2.2.2.2.2.2.2.2.2.2.1
      have f15 := y.2.2.2.2.2.2.2.2.2.2.2.2.2.2.2.1
      clear y
      clear hs
      go_wp2
      exact ⟨rfl, Below.refl _ _, by (show _ = _; rfl), fun _ h => nomatch h⟩
    exact hops_nil
  case hS3 =>
    intro j v u u' hkj hjn h hb
    match j, hkj, hjn, h with
    | 9, _, _, h => exact h
    | 10, _, _, h => exact h
    | 11, _, _, h => exact h
    | 12, _, _, h => exact h
    | 13, _, _, h => exact h
    | 14, _, _, h => exact h
    | q + 15, _, hq, _ => exact absurd hq (by omega)
  intro v u hu hs hap
  have s_9 : v 9 = _ := hs 9 (by decide) (by decide)
  have s_10 : v 10 = _ := hs 10 (by decide) (by decide)
  have s_11 : v 11 = .int .i64 (deepT F) := hs 11 (by decide) (by decide)
  have s_12 : v 12 = _ := hs 12 (by decide) (by decide)
  have s_13 : v 13 = .int .i64 (deepT X) := hs 13 (by decide) (by decide)
  have s_14 : v 14 = _ := hs 14 (by decide) (by decide)
  simp only [putAll, dstOf]
  replace HC := Lib.hid (HC.out.below hu)
  replace HXW := Lib.hid (HXW.out.below hu)
  replace HYW := Lib.hid (HYW.out.below hu)
  replace HFW := Lib.hid (HFW.out.below hu)
  replace HZW := Lib.hid (HZW.out.below hu)
  replace HB := Lib.hid (HB.out.trans ((hu).mono HB.out.size))
  clear hs hap hu
  have b8' : ((deepT F : Int) == max (deepT X : Int) (deepT Y : Int) + 1) = true := by have := HFD.out; simp; omega
  have bd := deep_le X
  have be := deep_le Y
  refine rest_lineL 15 20 [_, _, _, _, _] rfl (by kernel_rfl) (by decide) (by decide) (by kernel_rfl) ?_
  go_wp2_with (go_at_call 21
               have hh := tm_DeepT Y _ _ _ (by omega) HYW.out
               refine hh.mono ?_
               clear hh
               rintro e1 w1 ⟨rfl, hb1⟩
               have HU := Lib.hid hb1
               clear hb1)
  replace HC := Lib.hid (HC.out.below HU.out)
  replace HXW := Lib.hid (HXW.out.below HU.out)
  replace HYW := Lib.hid (HYW.out.below HU.out)
  replace HFW := Lib.hid (HFW.out.below HU.out)
  replace HZW := Lib.hid (HZW.out.below HU.out)
  replace HB := Lib.hid (HB.out.trans ((HU.out).mono HB.out.size))
  clear HU s_9 s_10 s_11 s_12 s_13 s_14 v b8' bd be
  refine then_rest ?_
  refine rest_opsL 20 23 83 [_, _, _] (pk 20 [isV ?a4_20, isV ?a4_21, isV ?a4_22]) (fun _ _ => none) rfl (by kernel_rfl) (by kernel_rfl) rfl (.inr (by kernel_rfl)) ?hS4 ?hop4 ?_
  case hop4 =>
    refine hops_cons ?_ ?_
    · intro v u hu hs Q' hQ
      simp only [putAll, dstOf]
      clear hs
      go_wp2
      exact ⟨rfl, Below.refl _ _, by (show _ = _; rfl), fun _ h => nomatch h⟩
    refine hops_cons ?_ ?_
    · intro v u hu hs Q' hQ
      simp only [putAll, dstOf]
      have s_20 : v 20 = _ := hs 20 (by kernel_rfl) (by decide) (by decide)
      have y := HC.out.below hu
      have f0 := y.1
      have f1 := y.2.1
      have f2 := y.2.2.1
      have f3 := y.2.2.2.1
      have f4 := y.2.2.2.2.1
      have f5 := y.2.2.2.2.2.1
      have f6 := y.2.2.2.2.2.2.1
      have f7 := y.2.2.2.2.2.2.2.1
      have f8 := y.2.2.2.2.2.2.2.2.1
      have f9 := y.2.2.2.2.2.2.2.2.2.1
      have f10 := y.2.2.2.2.2.2.2.2.2.2.1
      have f11 := y.2.2.2.2.2.2.2.2.2.2.2.1
      have f12 := y.2.2.2.2.2.2.2.2.2.2.2.2.1
      have f13 := y.2.2.2.2.2.2.2.2.2.2.2.2.2.1
      have f14 := y.2.2.2.2.2.2.2.2.2.2.2.2.2.2.1
      have f15 := y.2.2.2.2.2.2.2.2.2.2.2.2.2.2.2.1
      clear y
      clear hs
      go_wp2
      exact ⟨rfl, Below.refl _ _, by (show _ = _; rfl), fun _ h => nomatch h⟩
    refine hops_cons ?_ ?_
    · intro v u hu hs Q' hQ
      simp only [putAll, dstOf]
      have s_20 : v 20 = _ := hs 20 (by kernel_rfl) (by decide) (by decide)
      have y := HC.out.below hu
      have f0 := y.1
      have f1 := y.2.1
      have f2 := y.2.2.1
      have f3 := y.2.2.2.1
      have f4 := y.2.2.2.2.1
      have f5 := y.2.2.2.2.2.1
      have f6 := y.2.2.2.2.2.2.1
      have f7 := y.2.2.2.2.2.2.2.1
      have f8 := y.2.2.2.2.2.2.2.2.1
      have f9 := y.2.2.2.2.2.2.2.2.2.1
      have f10 := y.2.2.2.2.2.2.2.2.2.2.1
      have f11 := y.2.2.2.2.2.2.2.2.2.2.2.1
      have f12 := y.2.2.2.2.2.2.2.2.2.2.2.2.1
      have f13 := y.2.2.2.2.2.2.2.2.2.2.2.2.2.1
      have f14 := y.2.2.2.2.2.2.2.2.2.2.2.2.2.2.1
      have f15 := y.2.2.2.2.2.2.2.2.2.2.2.2.2.2.2.1
      clear y
      clear hs
      go_wp2
      exact ⟨rfl, Below.refl _ _, by (show _ = _; rfl), fun _ h => nomatch h⟩
    exact hops_nil
  case hS4 =>
    intro j v u u' hkj hjn h hb
    match j, hkj, hjn, h with
    | 20, _, _, h => exact h
    | 21, _, _, h => exact h
    | 22, _, _, h => exact h
    | q + 23, _, hq, _ => exact absurd hq (by omega)
  intro v u hu hs hap
  have s_20 : v 20 = _ := hs 20 (by decide) (by decide)
  have s_21 : v 21 = _ := hs 21 (by decide) (by decide)
  have s_22 : v 22 = _ := hs 22 (by decide) (by decide)
  simp only [putAll, dstOf]
  replace HC := Lib.hid (HC.out.below hu)
  replace HXW := Lib.hid (HXW.out.below hu)
  replace HYW := Lib.hid (HYW.out.below hu)
  replace HFW := Lib.hid (HFW.out.below hu)
  replace HZW := Lib.hid (HZW.out.below hu)
  replace HB := Lib.hid (HB.out.trans ((hu).mono HB.out.size))
  clear hs hap hu
  refine rest_lineL 23 26 [_, _, _] rfl (by kernel_rfl) (by decide) (by decide) (by kernel_rfl) ?_
  go_wp2_with (go_at_call 24
               have hh := tm_Compare Z F _ _ _ _ _ (by omega) (by omega) HZW.out HFW.out
               refine hh.mono ?_
               clear hh
               rintro e1 w1 ⟨rfl, hb1⟩
               rw [HCZ.out]
               have HU := Lib.hid hb1
               clear hb1)
  replace HC := Lib.hid (HC.out.below HU.out)
  replace HXW := Lib.hid (HXW.out.below HU.out)
  replace HYW := Lib.hid (HYW.out.below HU.out)
  replace HFW := Lib.hid (HFW.out.below HU.out)
  replace HZW := Lib.hid (HZW.out.below HU.out)
  replace HB := Lib.hid (HB.out.trans ((HU.out).mono HB.out.size))
  clear HU s_20 s_21 s_22 v
  refine then_rest ?_
  refine rest_opsL 26 32 83 [_, _, _, _, _, _] (pk 26 [isV ?a5_26, isV ?a5_27, fun v u => IsSl u AnyB v [X], fun v u => IsTm u AnyB v (compT (⟨#[102]⟩ : ByteArray) [X]), isV ?a5_30, fun v u => IsSl u AnyB v [Y]]) (fun _ _ => none) rfl (by kernel_rfl) (by kernel_rfl) rfl (.inr (by kernel_rfl)) ?hS5 ?hop5 ?_
  case hop5 =>
    refine hops_cons ?_ ?_
    · intro v u hu hs Q' hQ
      simp only [putAll, dstOf]
      clear hs
      go_wp2
      exact ⟨rfl, Below.refl _ _, by (show _ = _; rfl), fun _ h => nomatch h⟩
    refine hops_cons ?_ ?_
    · intro v u hu hs Q' hQ
      simp only [putAll, dstOf]
      have s_26 : v 26 = _ := hs 26 (by kernel_rfl) (by decide) (by decide)
      have y := HC.out.below hu
      have f0 := y.1
      have f1 := y.2.1
      have f2 := y.2.2.1
      have f3 := y.2.2.2.1
      have f4 := y.2.2.2.2.1
      have f5 := y.2.2.2.2.2.1
      have f6 := y.2.2.2.2.2.2.1
      have f7 := y.2.2.2.2.2.2.2.1
      have f8 := y.2.2.2.2.2.2.2.2.1
      have f9 := y.2.2.2.2.2.2.2.2.2.1
      have f10 := y.2.2.2.2.2.2.2.2.2.2.1
      have f11 := y.2.2.2.2.2.2.2.2.2.2.2.1
      have f12 := y.2.2.2.2.2.2.2.2.2.2.2.2.1
      have f13 := y.2.2.2.2.2.2.2.2.2.2.2.2.2.1
      have f14 := y.2.2.2.2.2.2.2.2.2.2.2.2.2.2.1
      have f15 := y.2.2.2.2.2.2.2.2.2.2.2.2.2.2.2.1
      clear y
      clear hs
      go_wp2
      exact ⟨rfl, Below.refl _ _, by (show _ = _; rfl), fun _ h => nomatch h⟩
    refine hops_cons ?_ ?_
    · intro v u hu hs Q' hQ
      simp only [putAll, dstOf]
      have s_26 : v 26 = _ := hs 26 (by kernel_rfl) (by decide) (by decide)
      have s_27 : v 27 = _ := hs 27 (by kernel_rfl) (by decide) (by decide)
      clear hs
      go_wp2
      exact ⟨rfl, (Below.refl _ _).alloc (Nat.le_refl _) _, row1 (HXW.out.below hu), fun _ h => nomatch h⟩
    refine hops_cons ?_ ?_
    · intro v u hu hs Q' hQ
      simp only [putAll, dstOf]
      have s_26 : v 26 = _ := hs 26 (by kernel_rfl) (by decide) (by decide)
      have s_28 : IsSl u AnyB (v 28) [X] := hs 28 (by kernel_rfl) (by decide) (by decide)
      have y := HC.out.below hu
      have f0 := y.1
      have f1 := y.2.1
      have f2 := y.2.2.1
      have f3 := y.2.2.2.1
      have f4 := y.2.2.2.2.1
      have f5 := y.2.2.2.2.2.1
      have f6 := y.2.2.2.2.2.2.1
      have f7 := y.2.2.2.2.2.2.2.1
      have f8 := y.2.2.2.2.2.2.2.2.1
      have f9 := y.2.2.2.2.2.2.2.2.2.1
      have f10 := y.2.2.2.2.2.2.2.2.2.2.1
      have f11 := y.2.2.2.2.2.2.2.2.2.2.2.1
      have f12 := y.2.2.2.2.2.2.2.2.2.2.2.2.1
      have f13 := y.2.2.2.2.2.2.2.2.2.2.2.2.2.1
      have f14 := y.2.2.2.2.2.2.2.2.2.2.2.2.2.2.1
      have f15 := y.2.2.2.2.2.2.2.2.2.2.2.2.2.2.2.1
      clear y
      clear hs
      go_wp2_with (go_at_call 28; refine (l3_fs _ _ _ _ s_28).mono ?_; rintro e1 w1 ⟨v1, rfl, hi1, hb1⟩)
      exact ⟨rfl, hb1, hi1, fun _ h => nomatch h⟩
    refine hops_cons ?_ ?_
    · intro v u hu hs Q' hQ
      simp only [putAll, dstOf]
      have s_26 : v 26 = _ := hs 26 (by kernel_rfl) (by decide) (by decide)
      have y := HC.out.below hu
      have f0 := y.1
      have f1 := y.2.1
      have f2 := y.2.2.1
      have f3 := y.2.2.2.1
      have f4 := y.2.2.2.2.1
      have f5 := y.2.2.2.2.2.1
      have f6 := y.2.2.2.2.2.2.1
      have f7 := y.2.2.2.2.2.2.2.1
      have f8 := y.2.2.2.2.2.2.2.2.1
      have f9 := y.2.2.2.2.2.2.2.2.2.1
      have f10 := y.2.2.2.2.2.2.2.2.2.2.1
      have f11 := y.2.2.2.2.2.2.2.2.2.2.2.1
      have f12 := y.2.2.2.2.2.2.2.2.2.2.2.2.1
      have f13 := y.2.2.2.2.2.2.2.2.2.2.2.2.2.1
      have f14 := y.2.2.2.2.2.2.2.2.2.2.2.2.2.2.1
      have f15 := y.2.2.2.2.2.2.2.2.2.2.2.2.2.2.2.1
      clear y
      clear hs
      go_wp2
      exact ⟨rfl, Below.refl _ _, by (show _ = _; rfl), fun _ h => nomatch h⟩
    refine hops_cons ?_ ?_
    · intro v u hu hs Q' hQ
      simp only [putAll, dstOf]
      have s_26 : v 26 = _ := hs 26 (by kernel_rfl) (by decide) (by decide)
      have s_30 : v 30 = _ := hs 30 (by kernel_rfl) (by decide) (by decide)
      clear hs
      go_wp2
      exact ⟨rfl, (Below.refl _ _).alloc (Nat.le_refl _) _, row1 (HYW.out.below hu), fun _ h => nomatch h⟩
    exact hops_nil
  case hS5 =>
    intro j v u u' hkj hjn h hb
    match j, hkj, hjn, h with
    | 26, _, _, h => exact h
    | 27, _, _, h => exact h
    | 28, _, _, h => exact h.below hb
    | 29, _, _, h => exact h.below hb
    | 30, _, _, h => exact h
    | 31, _, _, h => exact h.below hb
    | q + 32, _, hq, _ => exact absurd hq (by omega)
  intro v u hu hs hap
  have s_26 : v 26 = _ := hs 26 (by decide) (by decide)
  have s_27 : v 27 = _ := hs 27 (by decide) (by decide)
  have s_28 : IsSl u AnyB (v 28) [X] := hs 28 (by decide) (by decide)
  have s_29 : IsTm u AnyB (v 29) (compT (⟨#[102]⟩ : ByteArray) [X]) := hs 29 (by decide) (by decide)
  have s_30 : v 30 = _ := hs 30 (by decide) (by decide)
  have s_31 : IsSl u AnyB (v 31) [Y] := hs 31 (by decide) (by decide)
  simp only [putAll, dstOf]
  replace HC := Lib.hid (HC.out.below hu)
  replace HXW := Lib.hid (HXW.out.below hu)
  replace HYW := Lib.hid (HYW.out.below hu)
  replace HFW := Lib.hid (HFW.out.below hu)
  replace HZW := Lib.hid (HZW.out.below hu)
  replace HB := Lib.hid (HB.out.trans ((hu).mono HB.out.size))
  clear hs hap hu
  have T29 := Lib.hid s_29
  have T31 := Lib.hid s_31
  have n1 : (compT (⟨#[102]⟩ : ByteArray) [X]).size ≤ 2000 := by simp only [compT, Tm.size, sizeL]; omega
  have n2 : (compT (⟨#[103]⟩ : ByteArray) [Y]).size ≤ 2000 := by simp only [compT, Tm.size, sizeL]; omega
  clear s_28 s_29 s_31
  refine rest_lineL 32 36 [_, _, _, _] rfl (by kernel_rfl) (by decide) (by decide) (by kernel_rfl) ?_
  go_wp2_with (first
    | (go_at_call 28
       refine (l3_fs _ _ _ _ T31.out).mono ?_
       rintro e1 w1 ⟨v1, rfl, hi1, hb1⟩
       have T32 := Lib.hid hi1
       replace T29 := Lib.hid (T29.out.below hb1)
       have HV := Lib.hid hb1
       clear hi1 hb1)
    | (go_at_call 24
       have hh := tm_Compare (compT (⟨#[102]⟩ : ByteArray) [X]) (compT (⟨#[103]⟩ : ByteArray) [Y]) _ _ _ _ _ (by omega) (by omega) T29.out T32.out
       refine hh.mono ?_
       clear hh
       rintro e1 w1 ⟨rfl, hb1⟩
       rw [HFG.out]
       have HU := Lib.hid (HV.out.trans (hb1.mono HV.out.size))
       clear hb1))
  replace HC := Lib.hid (HC.out.below HU.out)
  replace HXW := Lib.hid (HXW.out.below HU.out)
  replace HYW := Lib.hid (HYW.out.below HU.out)
  replace HFW := Lib.hid (HFW.out.below HU.out)
  replace HZW := Lib.hid (HZW.out.below HU.out)
  replace HB := Lib.hid (HB.out.trans ((HU.out).mono HB.out.size))
  clear HU HV T29 T31 T32 s_26 s_27 s_30
  have n3 : (compT (⟨#[102]⟩ : ByteArray) [X, Y]).size ≤ 3000 := by simp only [compT, Tm.size, sizeL]; omega
  have n4 : (compT (⟨#[102]⟩ : ByteArray) [Y, X]).size ≤ 3000 := by simp only [compT, Tm.size, sizeL]; omega
  have n5 : (compT (⟨#[102]⟩ : ByteArray) [Y]).size ≤ 3000 := by simp only [compT, Tm.size, sizeL]; omega
  obtain ⟨c, hc⟩ : ∃ c, c = cmpT (compT (⟨#[102]⟩ : ByteArray) [X, Y]) (compT (⟨#[102]⟩ : ByteArray) [Y, X]) := ⟨_, rfl⟩
  rw [← hc] at HFF
  have HCC := Lib.hid hc
  clear hc
  refine then_rest ?_
  refine rest_opsL 36 51 83 [_, _, _, _, _, _, _, _, _, _, _, _, _, _, _] (pk 36 [isV ?a6_36, isV ?a6_37, isV ?a6_38, fun v u => IsSl u AnyB v [X, Y], fun v u => IsTm u AnyB v (compT (⟨#[102]⟩ : ByteArray) [X, Y]), isV ?a6_41, isV ?a6_42, fun v u => IsSl u AnyB v [Y, X], fun v u => IsTm u AnyB v (compT (⟨#[102]⟩ : ByteArray) [Y, X]), isV (.int .i64 c), isV ?a6_46, fun v u => IsSl u AnyB v [X], fun v u => IsTm u AnyB v (compT (⟨#[102]⟩ : ByteArray) [X]), isV ?a6_49, fun v u => IsSl u AnyB v [Y]]) (fun _ _ => none) rfl (by kernel_rfl) (by kernel_rfl) rfl (.inr (by kernel_rfl)) ?hS6 ?hop6 ?_
  case hop6 =>
    refine hops_cons ?_ ?_
    · intro v u hu hs Q' hQ
      simp only [putAll, dstOf]
      clear hs
      go_wp2
      exact ⟨rfl, Below.refl _ _, by (show _ = _; rfl), fun _ h => nomatch h⟩
    refine hops_cons ?_ ?_
    · intro v u hu hs Q' hQ
      simp only [putAll, dstOf]
      have s_36 : v 36 = _ := hs 36 (by kernel_rfl) (by decide) (by decide)
      have y := HC.out.below hu
      have f0 := y.1
      have f1 := y.2.1
      have f2 := y.2.2.1
      have f3 := y.2.2.2.1
      have f4 := y.2.2.2.2.1
      have f5 := y.2.2.2.2.2.1
      have f6 := y.2.2.2.2.2.2.1
      have f7 := y.2.2.2.2.2.2.2.1
      have f8 := y.2.2.2.2.2.2.2.2.1
      have f9 := y.2.2.2.2.2.2.2.2.2.1
      have f10 := y.2.2.2.2.2.2.2.2.2.2.1
      have f11 := y.2.2.2.2.2.2.2.2.2.2.2.1
      have f12 := y.2.2.2.2.2.2.2.2.2.2.2.2.1
      have f13 := y.2.2.2.2.2.2.2.2.2.2.2.2.2.1
      have f14 := y.2.2.2.2.2.2.2.2.2.2.2.2.2.2.1
      have f15 := y.2.2.2.2.2.2.2.2.2.2.2.2.2.2.2.1
      clear y
      clear hs
      go_wp2
      exact ⟨rfl, Below.refl _ _, by (show _ = _; rfl), fun _ h => nomatch h⟩
    refine hops_cons ?_ ?_
    · intro v u hu hs Q' hQ
      simp only [putAll, dstOf]
      have s_36 : v 36 = _ := hs 36 (by kernel_rfl) (by decide) (by decide)
      have y := HC.out.below hu
      have f0 := y.1
      have f1 := y.2.1
      have f2 := y.2.2.1
      have f3 := y.2.2.2.1
      have f4 := y.2.2.2.2.1
      have f5 := y.2.2.2.2.2.1
      have f6 := y.2.2.2.2.2.2.1
      have f7 := y.2.2.2.2.2.2.2.1
      have f8 := y.2.2.2.2.2.2.2.2.1
      have f9 := y.2.2.2.2.2.2.2.2.2.1
      have f10 := y.2.2.2.2.2.2.2.2.2.2.1
      have f11 := y.2.2.2.2.2.2.2.2.2.2.2.1
      have f12 := y.2.2.2.2.2.2.2.2.2.2.2.2.1
      have f13 := y.2.2.2.2.2.2.2.2.2.2.2.2.2.1
      have f14 := y.2.2.2.2.2.2.2.2.2.2.2.2.2.2.1
      have f15 := y.2.2.2.2.2.2.2.2.2.2.2.2.2.2.2.1
      clear y
      clear hs
      go_wp2
      exact ⟨rfl, Below.refl _ _, by (show _ = _; rfl), fun _ h => nomatch h⟩
    refine hops_cons ?_ ?_
    · intro v u hu hs Q' hQ
      simp only [putAll, dstOf]
      have s_36 : v 36 = _ := hs 36 (by kernel_rfl) (by decide) (by decide)
      have s_37 : v 37 = _ := hs 37 (by kernel_rfl) (by decide) (by decide)
      have s_38 : v 38 = _ := hs 38 (by kernel_rfl) (by decide) (by decide)
      clear hs
      go_wp2
      exact ⟨rfl, (Below.refl _ _).alloc (Nat.le_refl _) _, row2 (HXW.out.below hu) (HYW.out.below hu), fun _ h => nomatch h⟩
    refine hops_cons ?_ ?_
    · intro v u hu hs Q' hQ
      simp only [putAll, dstOf]
      have s_36 : v 36 = _ := hs 36 (by kernel_rfl) (by decide) (by decide)
      have s_39 : IsSl u AnyB (v 39) [X, Y] := hs 39 (by kernel_rfl) (by decide) (by decide)
      have y := HC.out.below hu
      have f0 := y.1
      have f1 := y.2.1
      have f2 := y.2.2.1
      have f3 := y.2.2.2.1
      have f4 := y.2.2.2.2.1
      have f5 := y.2.2.2.2.2.1
      have f6 := y.2.2.2.2.2.2.1
      have f7 := y.2.2.2.2.2.2.2.1
      have f8 := y.2.2.2.2.2.2.2.2.1
      have f9 := y.2.2.2.2.2.2.2.2.2.1
      have f10 := y.2.2.2.2.2.2.2.2.2.2.1
      have f11 := y.2.2.2.2.2.2.2.2.2.2.2.1
      have f12 := y.2.2.2.2.2.2.2.2.2.2.2.2.1
      have f13 := y.2.2.2.2.2.2.2.2.2.2.2.2.2.1
      have f14 := y.2.2.2.2.2.2.2.2.2.2.2.2.2.2.1
      have f15 := y.2.2.2.2.2.2.2.2.2.2.2.2.2.2.2.1
      clear y
      clear hs
      go_wp2_with (go_at_call 28; refine (l3_fs _ _ _ _ s_39).mono ?_; rintro e1 w1 ⟨v1, rfl, hi1, hb1⟩)
      exact ⟨rfl, hb1, hi1, fun _ h => nomatch h⟩
    refine hops_cons ?_ ?_
    · intro v u hu hs Q' hQ
      simp only [putAll, dstOf]
      have s_36 : v 36 = _ := hs 36 (by kernel_rfl) (by decide) (by decide)
      have y := HC.out.below hu
      have f0 := y.1
      have f1 := y.2.1
      have f2 := y.2.2.1
      have f3 := y.2.2.2.1
      have f4 := y.2.2.2.2.1
      have f5 := y.2.2.2.2.2.1
      have f6 := y.2.2.2.2.2.2.1
      have f7 := y.2.2.2.2.2.2.2.1
      have f8 := y.2.2.2.2.2.2.2.2.1
      have f9 := y.2.2.2.2.2.2.2.2.2.1
      have f10 := y.2.2.2.2.2.2.2.2.2.2.1
      have f11 := y.2.2.2.2.2.2.2.2.2.2.2.1
      have f12 := y.2.2.2.2.2.2.2.2.2.2.2.2.1
      have f13 := y.2.2.2.2.2.2.2.2.2.2.2.2.2.1
      have f14 := y.2.2.2.2.2.2.2.2.2.2.2.2.2.2.1
      have f15 := y.2.2.2.2.2.2.2.2.2.2.2.2.2.2.2.1
      clear y
      clear hs
      go_wp2
      exact ⟨rfl, Below.refl _ _, by (show _ = _; rfl), fun _ h => nomatch h⟩
    refine hops_cons ?_ ?_
    · intro v u hu hs Q' hQ
      simp only [putAll, dstOf]
      have s_36 : v 36 = _ := hs 36 (by kernel_rfl) (by decide) (by decide)
      have y := HC.out.below hu
      have f0 := y.1
      have f1 := y.2.1
      have f2 := y.2.2.1
      have f3 := y.2.2.2.1
      have f4 := y.2.2.2.2.1
      have f5 := y.2.2.2.2.2.1
      have f6 := y.2.2.2.2.2.2.1
      have f7 := y.2.2.2.2.2.2.2.1
      have f8 := y.2.2.2.2.2.2.2.2.1
      have f9 := y.2.2.2.2.2.2.2.2.2.1
      have f10 := y.2.2.2.2.2.2.2.2.2.2.1
      have f11 := y.2.2.2.2.2.2.2.2.2.2.2.1
      have f12 := y.2.2.2.2.2.2.2.2.2.2.2.2.1
      have f13 := y.2.2.2.2.2.2.2.2.2.2.2.2.2.1
      have f14 := y.2.2.2.2.2.2.2.2.2.2.2.2.2.2.1
      have f15 := y.2.2.2.2.2.2.2.2.2.2.2.2.2.2.2.1
      clear y
      clear hs
      go_wp2
      exact ⟨rfl, Below.refl _ _, by (show _ = _; rfl), fun _ h => nomatch h⟩
    refine hops_cons ?_ ?_
    · intro v u hu hs Q' hQ
      simp only [putAll, dstOf]
      have s_36 : v 36 = _ := hs 36 (by kernel_rfl) (by decide) (by decide)
      have s_41 : v 41 = _ := hs 41 (by kernel_rfl) (by decide) (by decide)
      have s_42 : v 42 = _ := hs 42 (by kernel_rfl) (by decide) (by decide)
      clear hs
      go_wp2
      exact ⟨rfl, (Below.refl _ _).alloc (Nat.le_refl _) _, row2 (HYW.out.below hu) (HXW.out.below hu), fun _ h => nomatch h⟩
    refine hops_cons ?_ ?_
    · intro v u hu hs Q' hQ
      simp only [putAll, dstOf]
      have s_36 : v 36 = _ := hs 36 (by kernel_rfl) (by decide) (by decide)
      have s_40 : IsTm u AnyB (v 40) (compT (⟨#[102]⟩ : ByteArray) [X, Y]) := hs 40 (by kernel_rfl) (by decide) (by decide)
      have s_43 : IsSl u AnyB (v 43) [Y, X] := hs 43 (by kernel_rfl) (by decide) (by decide)
      have y := HC.out.below hu
      have f0 := y.1
      have f1 := y.2.1
      have f2 := y.2.2.1
      have f3 := y.2.2.2.1
      have f4 := y.2.2.2.2.1
      have f5 := y.2.2.2.2.2.1
      have f6 := y.2.2.2.2.2.2.1
      have f7 := y.2.2.2.2.2.2.2.1
      have f8 := y.2.2.2.2.2.2.2.2.1
      have f9 := y.2.2.2.2.2.2.2.2.2.1
      have f10 := y.2.2.2.2.2.2.2.2.2.2.1
      have f11 := y.2.2.2.2.2.2.2.2.2.2.2.1
      have f12 := y.2.2.2.2.2.2.2.2.2.2.2.2.1
      have f13 := y.2.2.2.2.2.2.2.2.2.2.2.2.2.1
      have f14 := y.2.2.2.2.2.2.2.2.2.2.2.2.2.2.1
      have f15 := y.2.2.2.2.2.2.2.2.2.2.2.2.2.2.2.1
      clear y
      clear hs
      go_wp2_with (go_at_call 28; refine (l3_fs _ _ _ _ s_43).mono ?_; rintro e1 w1 ⟨v1, rfl, hi1, hb1⟩)
      exact ⟨rfl, hb1, hi1, fun _ h => nomatch h⟩
    refine hops_cons ?_ ?_
    · intro v u hu hs Q' hQ
      simp only [putAll, dstOf]
      have s_36 : v 36 = _ := hs 36 (by kernel_rfl) (by decide) (by decide)
      have s_40 : IsTm u AnyB (v 40) (compT (⟨#[102]⟩ : ByteArray) [X, Y]) := hs 40 (by kernel_rfl) (by decide) (by decide)
      have s_44 : IsTm u AnyB (v 44) (compT (⟨#[102]⟩ : ByteArray) [Y, X]) := hs 44 (by kernel_rfl) (by decide) (by decide)
      have y := HC.out.below hu
      have f0 := y.1
      have f1 := y.2.1
      have f2 := y.2.2.1
      have f3 := y.2.2.2.1
      have f4 := y.2.2.2.2.1
      have f5 := y.2.2.2.2.2.1
      have f6 := y.2.2.2.2.2.2.1
      have f7 := y.2.2.2.2.2.2.2.1
      have f8 := y.2.2.2.2.2.2.2.2.1
      have f9 := y.2.2.2.2.2.2.2.2.2.1
      have f10 := y.2.2.2.2.2.2.2.2.2.2.1
      have f11 := y.2.2.2.2.2.2.2.2.2.2.2.1
      have f12 := y.2.2.2.2.2.2.2.2.2.2.2.2.1
      have f13 := y.2.2.2.2.2.2.2.2.2.2.2.2.2.1
      have f14 := y.2.2.2.2.2.2.2.2.2.2.2.2.2.2.1
      have f15 := y.2.2.2.2.2.2.2.2.2.2.2.2.2.2.2.1
      clear y
      clear hs
      go_wp2_with (go_at_call 24; have hh := tm_Compare (compT (⟨#[102]⟩ : ByteArray) [X, Y]) (compT (⟨#[102]⟩ : ByteArray) [Y, X]) _ _ _ _ _ (by omega) (by omega) s_40 s_44; refine hh.mono ?_; clear hh; rintro e1 w1 ⟨rfl, hb1⟩; rw [← HCC.out])
      exact ⟨rfl, hb1, rfl, fun _ h => nomatch h⟩
    refine hops_cons ?_ ?_
    · intro v u hu hs Q' hQ
      simp only [putAll, dstOf]
      have s_36 : v 36 = _ := hs 36 (by kernel_rfl) (by decide) (by decide)
      have y := HC.out.below hu
      have f0 := y.1
      have f1 := y.2.1
      have f2 := y.2.2.1
      have f3 := y.2.2.2.1
      have f4 := y.2.2.2.2.1
      have f5 := y.2.2.2.2.2.1
      have f6 := y.2.2.2.2.2.2.1
      have f7 := y.2.2.2.2.2.2.2.1
      have f8 := y.2.2.2.2.2.2.2.2.1
      have f9 := y.2.2.2.2.2.2.2.2.2.1
      have f10 := y.2.2.2.2.2.2.2.2.2.2.1
      have f11 := y.2.2.2.2.2.2.2.2.2.2.2.1
      have f12 := y.2.2.2.2.2.2.2.2.2.2.2.2.1
      have f13 := y.2.2.2.2.2.2.2.2.2.2.2.2.2.1
      have f14 := y.2.2.2.2.2.2.2.2.2.2.2.2.2.2.1
      have f15 := y.2.2.2.2.2.2.2.2.2.2.2.2.2.2.2.1
      clear y
      clear hs
      go_wp2
      exact ⟨rfl, Below.refl _ _, by (show _ = _; rfl), fun _ h => nomatch h⟩
    refine hops_cons ?_ ?_
    · intro v u hu hs Q' hQ
      simp only [putAll, dstOf]
      have s_36 : v 36 = _ := hs 36 (by kernel_rfl) (by decide) (by decide)
      have s_46 : v 46 = _ := hs 46 (by kernel_rfl) (by decide) (by decide)
      clear hs
      go_wp2
      exact ⟨rfl, (Below.refl _ _).alloc (Nat.le_refl _) _, row1 (HXW.out.below hu), fun _ h => nomatch h⟩
    refine hops_cons ?_ ?_
    · intro v u hu hs Q' hQ
      simp only [putAll, dstOf]
      have s_36 : v 36 = _ := hs 36 (by kernel_rfl) (by decide) (by decide)
      have s_45 : v 45 = .int .i64 c := hs 45 (by kernel_rfl) (by decide) (by decide)
      have s_47 : IsSl u AnyB (v 47) [X] := hs 47 (by kernel_rfl) (by decide) (by decide)
      have y := HC.out.below hu
      have f0 := y.1
      have f1 := y.2.1
      have f2 := y.2.2.1
      have f3 := y.2.2.2.1
      have f4 := y.2.2.2.2.1
      have f5 := y.2.2.2.2.2.1
      have f6 := y.2.2.2.2.2.2.1
      have f7 := y.2.2.2.2.2.2.2.1
      have f8 := y.2.2.2.2.2.2.2.2.1
      have f9 := y.2.2.2.2.2.2.2.2.2.1
      have f10 := y.2.2.2.2.2.2.2.2.2.2.1
      have f11 := y.2.2.2.2.2.2.2.2.2.2.2.1
      have f12 := y.2.2.2.2.2.2.2.2.2.2.2.2.1
      have f13 := y.2.2.2.2.2.2.2.2.2.2.2.2.2.1
      have f14 := y.2.2.2.2.2.2.2.2.2.2.2.2.2.2.1
      have f15 := y.2.2.2.2.2.2.2.2.2.2.2.2.2.2.2.1
      clear y
      clear hs
      go_wp2_with (go_at_call 28; refine (l3_fs _ _ _ _ s_47).mono ?_; rintro e1 w1 ⟨v1, rfl, hi1, hb1⟩)
      exact ⟨rfl, hb1, hi1, fun _ h => nomatch h⟩
    refine hops_cons ?_ ?_
    · intro v u hu hs Q' hQ
      simp only [putAll, dstOf]
      have s_36 : v 36 = _ := hs 36 (by kernel_rfl) (by decide) (by decide)
      have y := HC.out.below hu
      have f0 := y.1
      have f1 := y.2.1
      have f2 := y.2.2.1
      have f3 := y.2.2.2.1
      have f4 := y.2.2.2.2.1
      have f5 := y.2.2.2.2.2.1
      have f6 := y.2.2.2.2.2.2.1
      have f7 := y.2.2.2.2.2.2.2.1
      have f8 := y.2.2.2.2.2.2.2.2.1
      have f9 := y.2.2.2.2.2.2.2.2.2.1
      have f10 := y.2.2.2.2.2.2.2.2.2.2.1
      have f11 := y.2.2.2.2.2.2.2.2.2.2.2.1
      have f12 := y.2.2.2.2.2.2.2.2.2.2.2.2.1
      have f13 := y.2.2.2.2.2.2.2.2.2.2.2.2.2.1
      have f14 := y.2.2.2.2.2.2.2.2.2.2.2.2.2.2.1
      have f15 := y.2.2.2.2.2.2.2.2.2.2.2.2.2.2.2.1
      clear y
      clear hs
      go_wp2
      exact ⟨rfl, Below.refl _ _, by (show _ = _; rfl), fun _ h => nomatch h⟩
    refine hops_cons ?_ ?_
    · intro v u hu hs Q' hQ
      simp only [putAll, dstOf]
      have s_36 : v 36 = _ := hs 36 (by kernel_rfl) (by decide) (by decide)
      have s_49 : v 49 = _ := hs 49 (by kernel_rfl) (by decide) (by decide)
      clear hs
      go_wp2
      exact ⟨rfl, (Below.refl _ _).alloc (Nat.le_refl _) _, row1 (HYW.out.below hu), fun _ h => nomatch h⟩
    exact hops_nil
  case hS6 =>
    intro j v u u' hkj hjn h hb
    match j, hkj, hjn, h with
    | 36, _, _, h => exact h
    | 37, _, _, h => exact h
    | 38, _, _, h => exact h
    | 39, _, _, h => exact h.below hb
    | 40, _, _, h => exact h.below hb
    | 41, _, _, h => exact h
    | 42, _, _, h => exact h
    | 43, _, _, h => exact h.below hb
    | 44, _, _, h => exact h.below hb
    | 45, _, _, h => exact h
    | 46, _, _, h => exact h
    | 47, _, _, h => exact h.below hb
    | 48, _, _, h => exact h.below hb
    | 49, _, _, h => exact h
    | 50, _, _, h => exact h.below hb
    | q + 51, _, hq, _ => exact absurd hq (by omega)
  intro v u hu hs hap
  have s_36 : v 36 = _ := hs 36 (by decide) (by decide)
  have s_37 : v 37 = _ := hs 37 (by decide) (by decide)
  have s_38 : v 38 = _ := hs 38 (by decide) (by decide)
  have s_39 : IsSl u AnyB (v 39) [X, Y] := hs 39 (by decide) (by decide)
  have s_40 : IsTm u AnyB (v 40) (compT (⟨#[102]⟩ : ByteArray) [X, Y]) := hs 40 (by decide) (by decide)
  have s_41 : v 41 = _ := hs 41 (by decide) (by decide)
  have s_42 : v 42 = _ := hs 42 (by decide) (by decide)
  have s_43 : IsSl u AnyB (v 43) [Y, X] := hs 43 (by decide) (by decide)
  have s_44 : IsTm u AnyB (v 44) (compT (⟨#[102]⟩ : ByteArray) [Y, X]) := hs 44 (by decide) (by decide)
  have s_45 : v 45 = .int .i64 c := hs 45 (by decide) (by decide)
  have s_46 : v 46 = _ := hs 46 (by decide) (by decide)
  have s_47 : IsSl u AnyB (v 47) [X] := hs 47 (by decide) (by decide)
  have s_48 : IsTm u AnyB (v 48) (compT (⟨#[102]⟩ : ByteArray) [X]) := hs 48 (by decide) (by decide)
  have s_49 : v 49 = _ := hs 49 (by decide) (by decide)
  have s_50 : IsSl u AnyB (v 50) [Y] := hs 50 (by decide) (by decide)
  simp only [putAll, dstOf]
  replace HC := Lib.hid (HC.out.below hu)
  replace HXW := Lib.hid (HXW.out.below hu)
  replace HYW := Lib.hid (HYW.out.below hu)
  replace HFW := Lib.hid (HFW.out.below hu)
  replace HZW := Lib.hid (HZW.out.below hu)
  replace HB := Lib.hid (HB.out.trans ((hu).mono HB.out.size))
  clear hs hap hu
  have T48 := Lib.hid s_48
  have T50 := Lib.hid s_50
  clear s_39 s_40 s_43 s_44 s_47 s_48 s_50
  have cc : (c == c) = true := by simp
  refine rest_lineL 51 56 [_, _, _, _, _] rfl (by kernel_rfl) (by decide) (by decide) (by kernel_rfl) ?_
  go_wp2_with (first
    | (go_at_call 28
       refine (l3_fs _ _ _ _ T50.out).mono ?_
       rintro e1 w1 ⟨v1, rfl, hi1, hb1⟩
       have T51 := Lib.hid hi1
       replace T48 := Lib.hid (T48.out.below hb1)
       have HV := Lib.hid hb1
       clear hi1 hb1)
    | (go_at_call 24
       have hh := tm_Compare (compT (⟨#[102]⟩ : ByteArray) [X]) (compT (⟨#[102]⟩ : ByteArray) [Y]) _ _ _ _ _ (by omega) (by omega) T48.out T51.out
       refine hh.mono ?_
       clear hh
       rintro e1 w1 ⟨rfl, hb1⟩
       rw [← HFF.out]
       have HU := Lib.hid (HV.out.trans (hb1.mono HV.out.size))
       clear hb1))
  replace HB := Lib.hid (HB.out.trans (HU.out.mono HB.out.size))
  refine then_rest (rest_end (by decide) ?_)
  go_wp2
  go_ret
  exact ⟨rfl, HB.out⟩
end Go.Proofs.Ytokhiolimioicaa.Tms
