
/-
  GoalKinds, walked over the program (printed by gen_l5k.py).
-/
import Derived.Test.YtmlceamcpelklaaL5B
import Derived.Test.YtmlceamcpelklaaRcl
import Derived.Test.YtmlceamcpelklaaRfl
namespace Go.Proofs.Ytmlceamcpelklaa.Tms
open Go Go.RowKit Go.Proofs.Ytmlceamcpelklaa.Reg Go.Proofs.Ytmlceamcpelklaa.Rws
set_option linter.unusedVariables false

/-- what Body made may be written: its topmost Args, so many places -/
def TopW (B p8 N : Nat) (a : Option Addr) (w : World) : Prop := N ≠ 0 → ∃ g cur, a = some ⟨g, 0, none⟩ ∧ B ≤ g ∧ g < p8 ∧ w.heap[g]? = some (.cells cur 27 (0, 0)) ∧ N * 4 ≤ cur.size
theorem TopW.below {B p8 N : Nat} {a : Option Addr} {w w' : World} (h : TopW B p8 N a w) (hb : Below w.heap.size w w') : TopW B p8 N a w' := fun hn =>
  let ⟨g, cur, e, h1, h2, h3, h4⟩ := h hn; ⟨g, cur, e, h1, h2, (hb.block g (Array.getElem?_eq_some_iff.1 h3).1).trans h3, h4⟩
theorem TopW.make {B : Nat} {P : Nat → Prop} {a : Option Addr} {c : Nat} {t : Tm} {w : World} (h : TopP B a t w) (hi : IsTm w P (aggT t a c) t) : TopW B w.heap.size t.args.length a w := fun hn => by
  obtain ⟨g, e, hg, cur, hc⟩ := h (fun h => hn (by rw [h]; rfl))
  refine ⟨g, cur, e, hg, (Array.getElem?_eq_some_iff.1 hc).1, hc, ?_⟩
  obtain ⟨b, off, e2, -, ht⟩ := hi.args.at (t.args.length - 1) (by omega)
  rw [e] at e2
  simp only [Option.some.injEq, Addr.mk.injEq, and_true] at e2
  obtain ⟨rfl, rfl⟩ := e2
  obtain ⟨q, k, -, -, -, h3, -, -⟩ := ht.read
  have h4 := cell_of_row w g (0 + (t.args.length - 1) * 4 + 3) _ _ _ hc
  rw [h4] at h3
  have := (Array.getElem?_eq_some_iff.1 h3).1
  omega
set_option maxRecDepth 100000 in
set_option maxHeartbeats 16000000 in
theorem law_kinds (L : List Pt) (v1 : Value) (w : World) (h1 : PtSl w v1 L) : Calls Try.prog 4 #[v1] w (Says true w) := by
  obtain ⟨a1, c1, rfl, hc1, hm1⟩ := h1.form
  have H1 := Lib.hid h1
  clear h1
  by_cases g1 : 60 < L.length
  · have d1 : decide (60 < (L.length : Int)) = true := by simp; omega
    go_enter Try.func4, Try.ntmps4
    go_wp2_with (first
      | (go_at_call 14; refine (l5_alive _).mono ?_; rintro e1 w1 ⟨rfl, hb1⟩; have HB := Lib.hid hb1; clear hb1)
      | (refine (ref_great L _ _ (H1.out.below HB.out)).mono ?_; rintro e2 w2 ⟨rfl, rfl⟩))
    go_ret
    exact ⟨rfl, HB.out⟩
  have d1 : decide (60 < (L.length : Int)) = false := by simp; omega
  have z1 := goodT_size L
  have z2 := ofN_small L.length L
  have hmg := good_may L
  have HMG := Lib.hid hmg
  clear hmg
  go_enter Try.func4, Try.ntmps4
  go_wp2_with fail
  refine (l5_alive _).mono ?_; rintro e1 w1 ⟨rfl, hb1⟩; have HB := Lib.hid hb1; clear hb1
  go_wp2_with fail
  refine (ref_great L _ _ (H1.out.below HB.out)).mono ?_; rintro e2 w2 ⟨rfl, rfl⟩
  go_wp2_with fail
  refine (ref_of L.length L _ _ (Nat.le_refl _) (by omega) (H1.out.below HB.out)).mono ?_
  rintro e3 w3 ⟨v3, rfl, hi3, hb3⟩
  obtain ⟨b1, k1, rfl⟩ := hi3.form
  generalize (ofN L.length L).1 = X at *
  generalize (ofN L.length L).2 = nx at *
  have VX := Lib.hid (Var.new hi3)
  have HB3 := Lib.hid (HB.out.trans ((hb3.trans ((below_new w3 (rowT X b1 k1)).mono hb3.size)).mono HB.out.size))
  clear hi3 hb3 HB
  go_wp2_with fail
  generalize w3.alloc (rowT X b1 k1) = W3 at *
  generalize w3.heap.size = px at *
  refine (ref_good L _ _ (by omega) (H1.out.below HB3.out)).mono ?_
  rintro e5 w5 ⟨v5, rfl, hi5, hb5⟩
  obtain ⟨b2, k2, rfl⟩ := hi5.form
  generalize hG : goodT L = G at *
  have HGE := Lib.hid hG
  clear hG
  have hb53 := hb5.trans ((below_new w5 (rowT G b2 k2)).mono hb5.size)
  have VG := Lib.hid (Var.new hi5)
  replace VX := Lib.hid (VX.out.below hb53)
  have HB5 := Lib.hid (HB3.out.trans (hb53.mono HB3.out.size))
  clear hi5 hb5 hb53 HB3
  obtain ⟨x0, x1, x2, x3⟩ := row4 VX.out.row
  obtain ⟨y0, y1, y2, y3⟩ := row4 VG.out.row
  go_wp2
  generalize w5.alloc (rowT G b2 k2) = W at *
  generalize w5.heap.size = pg at *
  clear x0 x1 x2 x3 y0 y1 y2 y3
  have hix : ∀ q : Nat, q < 2 → ∃ T qt ct, (∀ w, (Instr.index 37 (.agg #[.int .i64 X.k, .int .i64 X.n, .string X.s, .slice b1 X.args.length k1, .int .i64 G.k, .int .i64 G.n, .string G.s, .slice b2 G.args.length k2]) (.int .i64 q)).run Try.prog w = .ok (aggT T qt ct) w) ∧ IsTm W AnyB (aggT T qt ct) T ∧ T.size ≤ 500 := by
    intro q hq
    match q, hq with
    | 0, _ => exact ⟨X, b1, k1, fun w => by kernel_rfl, VX.out.is, by omega⟩
    | 1, _ => exact ⟨G, b2, k2, fun w => by kernel_rfl, VG.out.is, by omega⟩
  have HIX := Lib.hid hix
  have hst : ∃ q : Nat, q ≤ 2 ∧ (.int .i64 0 : Value) = .int .i64 q ∧ Below W.heap.size W W := ⟨0, by omega, rfl, Below.refl _ _⟩
  have HST := Lib.hid hst
  clear hix hst
  go_loopw [35] (fun c wr => ∃ q : Nat, q ≤ 2 ∧ c = .int .i64 q ∧ Below W.heap.size W wr) (fun c _ => 2 - (intOf c).toNat)
  case atStart => exact HST.out
  case round =>
    obtain ⟨q, hq, rfl, hbl⟩ := hrel
    clear HST
    have HBL := Lib.hid hbl
    clear hbl
    by_cases hq2 : q = 2
    case neg =>
      have hlt : (q : Int) < 2 := by omega
      obtain ⟨T, qt, ct, hix, hT, hTs⟩ := HIX.out q (by omega)
      have hTB := Lib.hid (Var.new (hT.below HBL.out))
      have VT := hTB
      have HW := Lib.hid (HBL.out.trans ((below_new wr (rowT T qt ct)).mono HBL.out.size))
      have sB := bodE_size T
      have sC := clsT_size T
      have sW := clsT_wsize T
      clear hT hTB HBL
      obtain ⟨x0, x1, x2, x3⟩ := row4 VT.out.row
      go_wp2_with fail
      clear hix
      generalize wr.alloc (rowT T qt ct) = W1 at *
      generalize wr.heap.size = p7 at *
      refine (goal_Body T _ _ _ (by omega) VT.out.is).mono ?_
      generalize hRB : bodE T = RB at *
      obtain ⟨B, eB⟩ := RB
      have RBE := Lib.hid hRB
      clear hRB x0 x1 x2 x3
      simp only [BodEPost]
      rintro e2 w2 ⟨qb, cb, rfl, hi2, ht2, hb2⟩
      have TW := Lib.hid ((TopW.make ht2 hi2).below (below_new w2 (rowT B qb cb)))
      have V8 := Lib.hid (Var.new hi2)
      have hb21 := hb2.trans ((below_new w2 (rowT B qb cb)).mono hb2.size)
      replace VT := Lib.hid (VT.out.below hb21)
      have hgb : W.heap.size ≤ W1.heap.size := HW.out.size
      replace HW := Lib.hid (HW.out.trans (hb21.mono HW.out.size))
      clear hi2 ht2 hb2 hb21
      obtain ⟨x0, x1, x2, x3⟩ := row4 VT.out.row
      go_wp2_with fail
      clear x0 x1 x2 x3
      generalize w2.alloc (rowT B qb cb) = W2 at *
      generalize w2.heap.size = p8 at *
      refine (ref_Body15 T _ _ _ (by omega) VT.out.is).mono ?_
      rw [RBE.out]
      simp only [RbePost]
      rintro e3 w3 ⟨qd, cd, rfl, hi3, hb3⟩
      have V10 := Lib.hid (Var.new hi3)
      have hb32 := hb3.trans ((below_new w3 (rowT B qd cd)).mono hb3.size)
      replace VT := Lib.hid (VT.out.below hb32)
      replace V8 := Lib.hid (V8.out.below hb32)
      replace TW := Lib.hid (TW.out.below hb32)
      replace HW := Lib.hid (HW.out.trans (hb32.mono HW.out.size))
      clear hi3 hb3 hb32
      obtain ⟨x0, x1, x2, x3⟩ := row4 VT.out.row
      go_wp2_with fail
      clear x0 x1 x2 x3
      generalize w3.alloc (rowT B qd cd) = W4 at *
      generalize w3.heap.size = p10 at *
      refine (goal_Clause T _ _ _ (by omega) VT.out.is).mono ?_
      generalize hRC : clsT T = RC at *
      obtain ⟨CH, CB, eC, CW⟩ := RC
      have RCE := Lib.hid hRC
      clear hRC
      simp only [ClsPost]
      rintro e w4 ⟨qh, qhc, qi, qic, qj, qjc, rfl, hih, hib, hiw, hb⟩
      obtain ⟨r0, r1, r2, rb, rz⟩ := three_rows w4 (rowT CH qh qhc) (rowT CB qi qic) (rowT CW qj qjc)
      have hbb := hb.trans (rb.mono hb.size)
      have V12 := Lib.hid (Var.mk r0 (hih.any.below rb))
      have V13 := Lib.hid (Var.mk r1 (hib.any.below rb))
      have V15 := Lib.hid (Var.mk r2 (hiw.any.below rb))
      replace VT := Lib.hid (VT.out.below hbb)
      replace V8 := Lib.hid (V8.out.below hbb)
      replace V10 := Lib.hid (V10.out.below hbb)
      replace TW := Lib.hid (TW.out.below hbb)
      replace HW := Lib.hid (HW.out.trans (hbb.mono HW.out.size))
      clear hih hib hiw hb hbb r0 r1 r2 rb rz
      obtain ⟨x0, x1, x2, x3⟩ := row4 VT.out.row
      go_wp2_with fail
      clear x0 x1 x2 x3
      generalize ((w4.alloc (rowT CH qh qhc)).alloc (rowT CB qi qic)).alloc (rowT CW qj qjc) = W5 at *
      generalize w4.heap.size = p12 at *
      refine (ref_Clause15 T _ _ _ (by omega) VT.out.is).mono ?_
      rw [RCE.out]
      simp only [ClsPost]
      rintro e w5 ⟨rh, rhc, ri, ric, rj, rjc, rfl, hih, hib, hiw, hb⟩
      obtain ⟨r0, r1, r2, rb, rz⟩ := three_rows w5 (rowT CH rh rhc) (rowT CB ri ric) (rowT CW rj rjc)
      have hbb := hb.trans (rb.mono hb.size)
      have V16 := Lib.hid (Var.mk r0 (hih.any.below rb))
      have V17 := Lib.hid (Var.mk r1 (hib.any.below rb))
      have V19 := Lib.hid (Var.mk r2 (hiw.any.below rb))
      replace VT := Lib.hid (VT.out.below hbb)
      replace V8 := Lib.hid (V8.out.below hbb)
      replace V10 := Lib.hid (V10.out.below hbb)
      replace TW := Lib.hid (TW.out.below hbb)
      replace V12 := Lib.hid (V12.out.below hbb)
      replace V13 := Lib.hid (V13.out.below hbb)
      replace V15 := Lib.hid (V15.out.below hbb)
      replace HW := Lib.hid (HW.out.trans (hbb.mono HW.out.size))
      clear hih hib hiw hb hbb r0 r1 r2 rb rz
      try simp only at sB sC sW
      clear VT RBE RCE
      obtain ⟨x0, x1, x2, x3⟩ := row4 V8.out.row
      obtain ⟨y0, y1, y2, y3⟩ := row4 V10.out.row
      go_wp2_with fail
      clear x0 x1 x2 x3 y0 y1 y2 y3
      generalize ((w5.alloc (rowT CH rh rhc)).alloc (rowT CB ri ric)).alloc (rowT CW rj rjc) = W6 at *
      generalize w5.heap.size = p16 at *
      refine (ref_same _ B B _ _ _ _ _ (Nat.le_refl _) (by omega) V8.out.is V10.out.is).mono ?_
      rintro e u0 ⟨rfl, hb⟩
      rw [sameT_self]
      replace V8 := Lib.hid (V8.out.below hb)
      replace V12 := Lib.hid (V12.out.below hb)
      replace V13 := Lib.hid (V13.out.below hb)
      replace V15 := Lib.hid (V15.out.below hb)
      replace V16 := Lib.hid (V16.out.below hb)
      replace V17 := Lib.hid (V17.out.below hb)
      replace V19 := Lib.hid (V19.out.below hb)
      replace TW := Lib.hid (TW.out.below hb)
      replace HW := Lib.hid (HW.out.trans (hb.mono HW.out.size))
      clear hb
      clear V10
      obtain ⟨x0, x1, x2, x3⟩ := row4 V12.out.row
      obtain ⟨y0, y1, y2, y3⟩ := row4 V16.out.row
      go_wp2_with fail
      clear x0 x1 x2 x3 y0 y1 y2 y3
      refine (ref_same _ CH CH _ _ _ _ _ (Nat.le_refl _) (by omega) V12.out.is V16.out.is).mono ?_
      rintro e u1 ⟨rfl, hb⟩
      rw [sameT_self]
      replace V8 := Lib.hid (V8.out.below hb)
      replace V13 := Lib.hid (V13.out.below hb)
      replace V15 := Lib.hid (V15.out.below hb)
      replace V17 := Lib.hid (V17.out.below hb)
      replace V19 := Lib.hid (V19.out.below hb)
      replace TW := Lib.hid (TW.out.below hb)
      replace HW := Lib.hid (HW.out.trans (hb.mono HW.out.size))
      clear hb
      clear V16 V12
      obtain ⟨x0, x1, x2, x3⟩ := row4 V13.out.row
      obtain ⟨y0, y1, y2, y3⟩ := row4 V17.out.row
      go_wp2_with fail
      clear x0 x1 x2 x3 y0 y1 y2 y3
      refine (ref_same _ CB CB _ _ _ _ _ (Nat.le_refl _) (by omega) V13.out.is V17.out.is).mono ?_
      rintro e u2 ⟨rfl, hb⟩
      rw [sameT_self]
      replace V8 := Lib.hid (V8.out.below hb)
      replace V15 := Lib.hid (V15.out.below hb)
      replace V19 := Lib.hid (V19.out.below hb)
      replace TW := Lib.hid (TW.out.below hb)
      replace HW := Lib.hid (HW.out.trans (hb.mono HW.out.size))
      clear hb
      clear V17 V13
      obtain ⟨x0, x1, x2, x3⟩ := row4 V15.out.row
      obtain ⟨y0, y1, y2, y3⟩ := row4 V19.out.row
      go_wp2_with fail
      clear x0 x1 x2 x3 y0 y1 y2 y3
      refine (ref_same _ CW CW _ _ _ _ _ (Nat.le_refl _) (by omega) V15.out.is V19.out.is).mono ?_
      rintro e u3 ⟨rfl, hb⟩
      rw [sameT_self]
      replace V8 := Lib.hid (V8.out.below hb)
      replace TW := Lib.hid (TW.out.below hb)
      replace HW := Lib.hid (HW.out.trans (hb.mono HW.out.size))
      clear hb
      clear V19 V15
      obtain ⟨-, -, -, x3⟩ := row4 V8.out.row
      go_wp2
      have hst : ∃ j : Nat, j ≤ B.args.length ∧ (.int .i64 0 : Value) = .int .i64 j ∧ u3.heap[p8]? = some (rowT B qb cb) ∧ TopW W1.heap.size p8 B.args.length qb u3 ∧ Below W.heap.size W u3 := ⟨0, by omega, rfl, V8.out.row, TW.out, HW.out⟩
      have HST := Lib.hid hst
      have hbn : B.args.length ≤ 100000 := by
        have h1 := len_le B.args
        have h2 : sizeL B.args + 1 = B.size := by obtain ⟨k1, n1, s1, a1⟩ := B; simp [Tm.size, Tm.args]
        omega
      clear hst x3 V8 TW HW
      go_loopw [97] (fun c wr => ∃ j : Nat, j ≤ B.args.length ∧ c = .int .i64 j ∧ wr.heap[p8]? = some (rowT B qb cb) ∧ TopW W1.heap.size p8 B.args.length qb wr ∧ Below W.heap.size W wr) (fun c _ => B.args.length - (intOf c).toNat)
      case atStart => exact HST.out
      case round =>
        obtain ⟨j, hj, rfl, hrow, htw, hbl⟩ := hrel
        clear HST
        by_cases hjn : j < B.args.length
        · obtain ⟨g, cur, rfl, hg1, hg2, hg3, hg4⟩ := htw (by omega)
          have hjl : (j : Int) < (B.args.length : Int) := by omega
          obtain ⟨-, -, -, x3⟩ := row4 hrow
          have hlt4 : j * 4 < cur.size := by omega
          have hc := cell_of_row wr g (j * 4) _ _ _ hg3
          rw [Array.getElem?_eq_getElem hlt4] at hc
          have hfz := frozen_of_row wr g (j * 4) _ _ hg3
          have HROW := Lib.hid hrow
          have HG3 := Lib.hid hg3
          have HBL := Lib.hid hbl
          clear hrow htw hbl hg3
          go_wp2
          go_roundw
          case rel => exact ⟨j + 1, by omega, by go_num, (Below.heap_setCell _ _ _ _ (show p8 ≠ g by omega)).trans HROW.out, fun _ => ⟨g, _, rfl, hg1, hg2, heap_setCell_same wr g (j * 4) _ _ _ HG3.out, by simpa using hg4⟩, HBL.out.setCell (show W.heap.size ≤ g by omega) _⟩
          case measure => simp [intOf]; omega
        · have hjl : decide ((j : Int) < (B.args.length : Int)) = false := by simp; omega
          have HBL := Lib.hid hbl
          clear hrow htw hbl
          go_wp2
          go_roundw
          case rel => exact ⟨q + 1, by omega, by go_num, HBL.out⟩
          case measure => simp [intOf]; omega
    case pos =>
      subst hq2
      replace VG := Lib.hid (VG.out.below HBL.out)
      have HBW := Lib.hid (HB5.out.trans (HBL.out.mono HB5.out.size))
      clear HBL HB5 HIX VX
      go_wp2
      refine wp_region_rest (by kernel_rfl) ?_
      have hdw : Below wr.heap.size wr wr.drew := (Below.refl _ _).drew
      replace VG := Lib.hid (VG.out.below hdw)
      replace HBW := Lib.hid (HBW.out.trans (hdw.mono HBW.out.size))
      clear hdw
      generalize wr.drew = W0 at *
      have HKE := Lib.hid (kindR_eq HMG.out)
      have bk : (kindT G == kindT G) = true := by simp
      have hsl := flatG_size _ G (Nat.le_refl _)
      have hll := flatG_len _ G (Nat.le_refl _)
      obtain ⟨x0, x1, x2, x3⟩ := row4 VG.out.row
      refine rest_chain 0 19 [(false, [0, 2]), (true, [1]), (true, [3]), (false, [4, 5, 6, 8]), (true, [7]), (true, [9]), (true, [10]), (false, [11, 12, 13, 14]), (true, [15]), (true, [16]), (false, [17, 18])] [(false, [_, _]), (true, [_]), (true, [_]), (false, [_, _, _, _]), (true, [_]), (true, [_]), (true, [_]), (false, [_, _, _, _]), (true, [_]), (true, [_]), (false, [_, _])] rfl (by kernel_rfl) (by kernel_rfl) rfl (by kernel_rfl) (by kernel_rfl) (.inl rfl) ?_
      refine chain_soft ?_
      intro E hE
      go_wp2
      clear x0 x1 x2 x3
      refine chain_one ?_
      intro E hE
      go_wp2_with (refine (goal_Kind G _ _ _ (by omega) VG.out.is).mono ?_; rintro e1 t1 ⟨rfl, hb⟩; have HC := Lib.hid hb; clear hb)
      refine ⟨HC.out, ?_⟩
      replace VG := Lib.hid (VG.out.below HC.out)
      replace HBW := Lib.hid (HBW.out.trans (HC.out.mono HBW.out.size))
      clear HC
      refine chain_one ?_
      intro E hE
      go_wp2_with (refine (ref_kind G _ _ _ (by omega) VG.out.is).mono ?_; rintro e2 t2 ⟨rfl, hb⟩; rw [HKE.out]; have HC := Lib.hid hb; clear hb)
      refine ⟨HC.out, ?_⟩
      replace VG := Lib.hid (VG.out.below HC.out)
      replace HBW := Lib.hid (HBW.out.trans (HC.out.mono HBW.out.size))
      clear HC
      obtain ⟨x0, x1, x2, x3⟩ := row4 VG.out.row
      refine chain_soft ?_
      intro E hE
      go_wp2
      clear x0 x1 x2 x3
      refine chain_one ?_
      intro E hE
      go_wp2_with (refine (goal_Flat G _ _ _ (by omega) VG.out.is).mono ?_; rintro e3 t3 ⟨va, rfl, hoa, hb⟩; have HC := Lib.hid hb; have HOA := Lib.hid hoa; clear hb hoa)
      refine ⟨HC.out, ?_⟩
      replace VG := Lib.hid (VG.out.below HC.out)
      replace HBW := Lib.hid (HBW.out.trans (HC.out.mono HBW.out.size))
      have IA := Lib.hid (own_reads HOA.out)
      obtain ⟨fa, fc, rfl⟩ := IA.out.form
      clear HC HOA
      refine chain_one ?_
      intro E hE
      go_wp2_with (refine (ref_Flat15 _ G _ _ _ (Nat.le_refl _) (by omega) HMG.out VG.out.is).mono ?_; rintro e4 t4 ⟨vb, rfl, hob, hb⟩; have HC := Lib.hid hb; have HOB := Lib.hid hob; clear hb hob)
      refine ⟨HC.out, ?_⟩
      replace VG := Lib.hid (VG.out.below HC.out)
      replace HBW := Lib.hid (HBW.out.trans (HC.out.mono HBW.out.size))
      replace IA := Lib.hid (IA.out.below HC.out)
      have IB := Lib.hid (own_reads HOB.out)
      obtain ⟨ga, gc, rfl⟩ := IB.out.form
      clear HC HOB
      refine chain_one ?_
      intro E hE
      go_wp2_with (refine (ref_all (flatG G) (flatG G) _ _ _ _ _ (by omega) IA.out IB.out).mono ?_; rintro e5 t5 ⟨rfl, hb⟩; rw [sameL_self]; have HC := Lib.hid hb; clear hb)
      refine ⟨HC.out, ?_⟩
      replace VG := Lib.hid (VG.out.below HC.out)
      replace HBW := Lib.hid (HBW.out.trans (HC.out.mono HBW.out.size))
      clear HC IA IB
      obtain ⟨x0, x1, x2, x3⟩ := row4 VG.out.row
      refine chain_soft ?_
      intro E hE
      go_wp2
      clear x0 x1 x2 x3
      refine chain_one ?_
      intro E hE
      go_wp2_with (refine (ref_good L _ _ (by omega) (H1.out.below HBW.out)).mono ?_; rintro e6 t6 ⟨v6, rfl, hi6, hb⟩; rw [HGE.out] at hi6; have HC := Lib.hid hb; have I6 := Lib.hid hi6; clear hb hi6)
      refine ⟨HC.out, ?_⟩
      replace VG := Lib.hid (VG.out.below HC.out)
      replace HBW := Lib.hid (HBW.out.trans (HC.out.mono HBW.out.size))
      clear HC
      refine chain_one ?_
      intro E hE
      go_wp2_with (refine (ref_same _ G G _ _ _ _ _ (Nat.le_refl _) (by omega) VG.out.is I6.out).mono ?_; rintro e7 t7 ⟨rfl, hb⟩; rw [sameT_self]; have HC := Lib.hid hb; clear hb)
      refine ⟨HC.out, ?_⟩
      have HF := Lib.hid (HBW.out.trans (HC.out.mono HBW.out.size))
      clear HC
      refine chain_soft ?_
      intro E hE
      go_wp2
      refine chain_nil (rest_end (by decide) ?_)
      go_wp2
      go_ret
      exact ⟨rfl, HF.out⟩
end Go.Proofs.Ytmlceamcpelklaa.Tms
