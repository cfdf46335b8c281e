
/-
  Layer 15's reference: Clause, walked over the program (printed by gen_rcl.py out of XRcl.head).
-/
import Derived.Test.YtmlceamcpelklaaRbe
import Derived.Test.YtmlceamcpelklaaChm
namespace Go.Proofs.Ytmlceamcpelklaa.Tms
open Go Go.RowKit Go.Proofs.Ytmlceamcpelklaa.Reg
set_option linter.unusedVariables false

/-- the blocks of the three results -/
def ClsM (w : World) (b : Nat) : Prop := b = w.heap.size + 1 ∨ b = w.heap.size + 2 ∨ b = w.heap.size + 3
theorem Keeps.set {w u : World} {M : Nat → Prop} {b : Nat} (h : Keeps w u M) (hM : M b) (cs : Array Value) : Keeps w (u.setRow b cs) M :=
  ⟨h.os, h.tape, h.output, by have := h.size; simpa using this, fun k hk hn => (setRow_other _ _ _ _ (fun e => hn (by rw [e]; exact hM))).trans (h.block k hk hn)⟩
theorem five_rows (w : World) (t : Tm) (a : Option Addr) (c : Nat) :
    ClsCtx w t a c zeroC zeroC zeroC (((((w.alloc (rowT t a c)).alloc (.cells zeroC 27 (0, 0))).alloc (.cells zeroC 27 (0, 0))).alloc (.cells zeroC 27 (0, 0))).alloc (.cells zeroC 27 (0, 0))) ∧
    (((((w.alloc (rowT t a c)).alloc (.cells zeroC 27 (0, 0))).alloc (.cells zeroC 27 (0, 0))).alloc (.cells zeroC 27 (0, 0))).alloc (.cells zeroC 27 (0, 0))).heap[w.heap.size + 4]? = some (.cells zeroC 27 (0, 0)) := by
  have h := cls_start w t a c
  have hz : ((((w.alloc (rowT t a c)).alloc (.cells zeroC 27 (0, 0))).alloc (.cells zeroC 27 (0, 0))).alloc (.cells zeroC 27 (0, 0))).heap.size = w.heap.size + 4 := by simp
  generalize (((w.alloc (rowT t a c)).alloc (.cells zeroC 27 (0, 0))).alloc (.cells zeroC 27 (0, 0))).alloc (.cells zeroC 27 (0, 0)) = u at *
  exact ⟨h.below (below_new _ _), by rw [← hz]; exact heap_alloc_new _ _⟩
theorem set3_is {P : Nat → Prop} {w W0 : World} {v : Value} {X : Tm} {PQ : Nat → Prop} {c1 c2 c3 : Array Value} (h : IsTm W0 PQ v X) (hQ : ∀ b, PQ b → (P b ∧ b < w.heap.size) ∨ w.heap.size + 3 < b) :
    IsTm (((W0.setRow (w.heap.size + 1) c1).setRow (w.heap.size + 2) c2).setRow (w.heap.size + 3) c3) (fun b => P b ∨ w.heap.size ≤ b) v X :=
  h.imp (fun b hb => (hQ b hb).elim (fun h => .inl h.1) fun h => .inr (by omega)) fun b hb _ => by
    have := hQ b hb
    exact (setRow_other _ _ _ _ (by rcases this with h | h <;> omega)).trans ((setRow_other _ _ _ _ (by rcases this with h | h <;> omega)).trans (setRow_other _ _ _ _ (by rcases this with h | h <;> omega)))
theorem isT_rule (t : Tm) : isT t (⟨#[58, 45]⟩ : ByteArray) 2 = isRule t := by
  have h : ((⟨#[58, 45]⟩ : ByteArray)).toList = [58, 45] := by decide +kernel
  unfold isT isRule
  rw [h]
  have e2 : ((t.args.length : Int) == 2) = (t.args.length == 2) := by
    by_cases hl : t.args.length = 2
    · simp [hl]
    · have h1 : (t.args.length == 2) = false := by simpa using hl
      rw [h1]; simp; omega
  rw [e2]
  cases (t.s.toList == [58, 45]) <;> cases (t.args.length == 2) <;> cases (t.k == 4) <;> simp
set_option maxRecDepth 100000 in
set_option maxHeartbeats 8000000 in
theorem ref_Clause15 (t : Tm) (v : Value) (P : Nat → Prop) (w : World) (hM : t.size ≤ 100000000) (h : IsTm w P v t) : Calls Try.prog 24 #[v] w (ClsPost P (clsT t) w) := by
  have hl := h.lt
  obtain ⟨a, cap, rfl⟩ := h.form
  obtain ⟨cx, nr⟩ := five_rows w t a cap
  have CX := Lib.hid cx
  have NR := Lib.hid nr
  have HL := Lib.hid hl
  clear h hl cx nr
  obtain ⟨x0, x1, x2, x3⟩ := row4 CX.out.box
  by_cases c1 : checkT t = 0
  case neg =>
    have b1 : (checkT t != 0) = true := by simpa using c1
    have HR := Lib.hid (show clsT t = (zeroTm, zeroTm, checkT t, zeroTm) by unfold clsT; rw [if_pos c1])
    clear c1
    go_enter Try.func24, Try.ntmps24
    go_wp2_with fail
    refine (ref_check t _ _ _ (by omega) (HL.out.below CX.out.bel)).mono ?_
    rintro e2 WC ⟨rfl, hb2⟩
    replace CX := Lib.hid (CX.out.below hb2)
    replace NR := Lib.hid ((hb2.block _ (Array.getElem?_eq_some_iff.1 NR.out).1).trans NR.out)
    clear hb2 x0 x1 x2 x3
    go_wp2
    refine wp_region_rest (by kernel_rfl) ?_
    have hdw : Below WC.heap.size WC WC.drew := (Below.refl _ _).drew
    replace CX := Lib.hid (CX.out.below hdw)
    replace NR := Lib.hid ((hdw.block _ (Array.getElem?_eq_some_iff.1 NR.out).1).trans NR.out)
    clear hdw
    generalize WC.drew = W0 at *
    have ltNR := (Array.getElem?_eq_some_iff.1 NR.out).1
    refine rest_chainM (fun u => Keeps W0 u (ClsM w)) 0 7 [(false, 0), (false, 1), (false, 2), (false, 3), (true, 4), (true, 5), (false, 6)] [(false, _), (false, _), (false, _), (false, _), (true, _), (true, _), (false, _)] rfl (by kernel_rfl) (by kernel_rfl) (by kernel_rfl) (by kernel_rfl) (.inr (by kernel_rfl)) (Keeps.refl _ _) ?_
    refine chainM_soft (a1 := ?ma1) (by kernel_rfl) ?mh1 ?mr1
    case mh1 =>
      intro u hu E hE
      obtain ⟨n0, n1, n2, n3⟩ := row4 ((hu.block _ ltNR (by unfold ClsM; omega)).trans NR.out)
      go_wp2
      rfl
    refine chainM_soft (a1 := ?ma2) (by kernel_rfl) ?mh2 ?mr2
    case mh2 =>
      intro u hu E hE
      obtain ⟨n0, n1, n2, n3⟩ := row4 ((hu.block _ ltNR (by unfold ClsM; omega)).trans NR.out)
      go_wp2
      rfl
    refine chainM_soft (a1 := ?ma3) (by kernel_rfl) ?mh3 ?mr3
    case mh3 =>
      intro u hu E hE
      go_wp2
      rfl
    refine chainM_soft (a1 := ?ma4) (by kernel_rfl) ?mh4 ?mr4
    case mh4 =>
      intro u hu E hE
      obtain ⟨n0, n1, n2, n3⟩ := row4 ((hu.block _ ltNR (by unfold ClsM; omega)).trans NR.out)
      go_wp2
      rfl
    refine chainM_one ?_
    intro E hE
    refine wpList_store_row rfl 27 (.tmp 2) (.tmp 17) rfl (w.heap.size + 1) zeroC rfl rfl _ _ CX.out.r1 size_term rfl (one4 _ _ _ _ _ _) ?_
    have k1 : Keeps W0 (W0.setRow (w.heap.size + 1) zeroC) (ClsM w) := (Keeps.refl _ _).set (.inl rfl) _
    refine hE _ _ ⟨k1, ?_⟩
    have C1 := Lib.hid (CX.out.set1 zeroC)
    refine chainM_one ?_
    intro E hE
    refine wpList_store_row rfl 27 (.tmp 3) (.tmp 18) rfl (w.heap.size + 2) zeroC rfl rfl _ _ C1.out.r2 size_term rfl (one4 _ _ _ _ _ _) ?_
    refine hE _ _ ⟨k1.set (.inr (.inl rfl)) _, ?_⟩
    have C2 := Lib.hid (C1.out.set2 zeroC)
    refine chainM_soft (a1 := ?ma5) (by kernel_rfl) ?mh5 ?mr5
    case mh5 =>
      intro u hu E hE
      go_wp2
      rfl
    refine chainM_nil ?_
    refine rest_lineL 7 8 [_] rfl (by kernel_rfl) (by decide) (by decide) (by kernel_rfl) ?_
    refine wpList_store_row rfl 27 (.tmp 5) (.tmp 20) rfl (w.heap.size + 3) zeroC rfl rfl _ _ C2.out.r3 size_term rfl (one4 _ _ _ _ _ _) ?_
    have C3 := Lib.hid (C2.out.set3 zeroC)
    refine then_rest (rest_end (by decide) ?_)
    go_wp2
    have hpost : ClsPost P (clsT t) w (.returned (.tuple #[.agg zeroC, .agg zeroC, .int .i64 (checkT t), .agg zeroC])) (((W0.setRow (w.heap.size + 1) zeroC).setRow (w.heap.size + 2) zeroC).setRow (w.heap.size + 3) zeroC) := by
      rw [HR.out]
      exact ⟨none, 0, none, 0, none, 0, rfl, zero_is _ _, zero_is _ _, zero_is _ _, C3.out.bel⟩
    exact bodyPost_ret (v := .tuple #[.agg zeroC, .agg zeroC, .int .i64 (checkT t), .agg zeroC]) (results_four Try.results24 _ _ _ _ _ _ _ _ _ _ _ _ rfl rfl rfl rfl C3.out.r1 C3.out.r2 C3.out.r3 Try.underlying27 rfl (by kernel_rfl) (by kernel_rfl) (by kernel_rfl)) rfl hpost
  have b1 : (checkT t != 0) = false := by simpa using c1
  have HR := Lib.hid (show clsT t = if (headC t).k = 1 then (zeroTm, zeroTm, 12, zeroTm) else if (headC t).k = 2 then (zeroTm, zeroTm, 13, headC t)
    else if (bodE (restC t)).2 = 13 then (zeroTm, zeroTm, 13, restC t) else if (bodE (restC t)).2 ≠ 0 then (zeroTm, zeroTm, (bodE (restC t)).2, zeroTm) else (headC t, (bodE (restC t)).1, 0, zeroTm) by unfold clsT; rw [if_neg (by simpa using c1)])
  clear c1
  go_enter Try.func24, Try.ntmps24
  go_wp2_with fail
  refine (ref_check t _ _ _ (by omega) (HL.out.below CX.out.bel)).mono ?_
  rintro e2 w2 ⟨rfl, hb2⟩
  replace CX := Lib.hid (CX.out.below hb2)
  replace NR := Lib.hid ((hb2.block _ (Array.getElem?_eq_some_iff.1 NR.out).1).trans NR.out)
  have hz2 : w.heap.size + 4 < w2.heap.size := (Array.getElem?_eq_some_iff.1 NR.out).1
  clear hb2 x0 x1 x2 x3
  obtain ⟨x0, x1, x2, x3⟩ := row4 CX.out.box
  obtain ⟨r0, r1, rb, rz⟩ := two_rows w2 (rowT t a cap) (rowT (atomT (⟨#[116, 114, 117, 101]⟩ : ByteArray)) none 0)
  replace CX := Lib.hid (CX.out.below rb)
  replace NR := Lib.hid ((rb.block _ (Array.getElem?_eq_some_iff.1 NR.out).1).trans NR.out)
  have RH0 := Lib.hid r0
  have RB0 := Lib.hid r1
  have hlt0 : w.heap.size < w2.heap.size := by omega
  have y0 := (rb.cell (p := ⟨w.heap.size, 0, none⟩) hlt0).trans x0
  have y1 := (rb.cell (p := ⟨w.heap.size, 1, none⟩) hlt0).trans x1
  have y2 := (rb.cell (p := ⟨w.heap.size, 2, none⟩) hlt0).trans x2
  have y3 := (rb.cell (p := ⟨w.heap.size, 3, none⟩) hlt0).trans x3
  clear r0 r1 rb rz
  go_wp2_with fail
  clear x0 x1 x2 x3 y0 y1 y2 y3
  refine (ref_is t (⟨#[58, 45]⟩ : ByteArray) 2 _ _ _ (by omega) (HL.out.below CX.out.bel)).mono ?_
  rintro e3 WC ⟨rfl, hb3⟩
  have hzc : w2.heap.size + 1 < WC.heap.size := by have := hb3.size; have h2 := (Array.getElem?_eq_some_iff.1 RB0.out).1; omega
  replace CX := Lib.hid (CX.out.below hb3)
  replace NR := Lib.hid ((hb3.block _ (Array.getElem?_eq_some_iff.1 NR.out).1).trans NR.out)
  replace RH0 := Lib.hid ((hb3.block _ (Array.getElem?_eq_some_iff.1 RH0.out).1).trans RH0.out)
  replace RB0 := Lib.hid ((hb3.block _ (Array.getElem?_eq_some_iff.1 RB0.out).1).trans RB0.out)
  clear hb3
  rw [isT_rule]
  cases hru : isRule t
  case false =>
    have IH : Hid (IsTm WC (fun b => (P b ∧ b < w.heap.size) ∨ w.heap.size + 3 < b) (aggT t a cap) t) := Lib.hid ((HL.out.below CX.out.bel).imp (fun b h => .inl h) fun _ _ _ => rfl)
    have IB : Hid (IsTm WC (fun b => (P b ∧ b < w.heap.size) ∨ w.heap.size + 3 < b) (aggT (atomT (⟨#[116, 114, 117, 101]⟩ : ByteArray)) none 0) (atomT (⟨#[116, 114, 117, 101]⟩ : ByteArray))) := Lib.hid (atom_is _ _ _)
    have hH : headC t = t := by unfold headC; rw [hru]; rfl
    have hB : restC t = atomT (⟨#[116, 114, 117, 101]⟩ : ByteArray) := by unfold restC; rw [hru]; rfl
    rw [hH, hB] at HR
    have hszB : (atomT (⟨#[116, 114, 117, 101]⟩ : ByteArray)).size ≤ 100000000 := by decide +kernel
    have RHx := RH0
    have RB := RB0
    have IHx := IH
    have hbh : w.heap.size + 3 < w2.heap.size := by omega
    clear RH0 RB0 hH hB hru IH
    obtain ⟨h0, h1, h2, h3⟩ := row4 RHx.out
    by_cases k1 : t.k = 1
    · have b1 : (t.k == 1) = true := by simp [k1]
      have HR2 := Lib.hid (HR.out.trans (if_pos k1))
      clear k1
      go_wp2
      refine wp_region_rest (by kernel_rfl) ?_
      have hdw : Below WC.heap.size WC WC.drew := (Below.refl _ _).drew
      replace CX := Lib.hid (CX.out.below hdw)
      replace NR := Lib.hid ((hdw.block _ (Array.getElem?_eq_some_iff.1 NR.out).1).trans NR.out)
      clear hdw
      generalize WC.drew = W0 at *
      have ltNR := (Array.getElem?_eq_some_iff.1 NR.out).1
      refine rest_chainM (fun u => Keeps W0 u (ClsM w)) 0 6 [(false, 0), (false, 1), (false, 2), (true, 3), (true, 4), (false, 5)] [(false, _), (false, _), (false, _), (true, _), (true, _), (false, _)] rfl (by kernel_rfl) (by kernel_rfl) (by kernel_rfl) (by kernel_rfl) (.inr (by kernel_rfl)) (Keeps.refl _ _) ?_
      refine chainM_soft (a1 := ?ma6) (by kernel_rfl) ?mh6 ?mr6
      case mh6 =>
        intro u hu E hE
        obtain ⟨n0, n1, n2, n3⟩ := row4 ((hu.block _ ltNR (by unfold ClsM; omega)).trans NR.out)
        go_wp2
        rfl
      refine chainM_soft (a1 := ?ma7) (by kernel_rfl) ?mh7 ?mr7
      case mh7 =>
        intro u hu E hE
        obtain ⟨n0, n1, n2, n3⟩ := row4 ((hu.block _ ltNR (by unfold ClsM; omega)).trans NR.out)
        go_wp2
        rfl
      refine chainM_soft (a1 := ?ma8) (by kernel_rfl) ?mh8 ?mr8
      case mh8 =>
        intro u hu E hE
        obtain ⟨n0, n1, n2, n3⟩ := row4 ((hu.block _ ltNR (by unfold ClsM; omega)).trans NR.out)
        go_wp2
        rfl
      refine chainM_one ?_
      intro E hE
      refine wpList_store_row rfl 27 (.tmp 2) (.tmp 36) rfl (w.heap.size + 1) zeroC rfl rfl _ _ CX.out.r1 size_term rfl (one4 _ _ _ _ _ _) ?_
      have k1 : Keeps W0 (W0.setRow (w.heap.size + 1) zeroC) (ClsM w) := (Keeps.refl _ _).set (.inl rfl) _
      refine hE _ _ ⟨k1, ?_⟩
      have C1 := Lib.hid (CX.out.set1 zeroC)
      refine chainM_one ?_
      intro E hE
      refine wpList_store_row rfl 27 (.tmp 3) (.tmp 37) rfl (w.heap.size + 2) zeroC rfl rfl _ _ C1.out.r2 size_term rfl (one4 _ _ _ _ _ _) ?_
      refine hE _ _ ⟨k1.set (.inr (.inl rfl)) _, ?_⟩
      have C2 := Lib.hid (C1.out.set2 zeroC)
      refine chainM_soft (a1 := ?ma9) (by kernel_rfl) ?mh9 ?mr9
      case mh9 =>
        intro u hu E hE
        go_wp2
        rfl
      refine chainM_nil ?_
      refine rest_lineL 6 7 [_] rfl (by kernel_rfl) (by decide) (by decide) (by kernel_rfl) ?_
      refine wpList_store_row rfl 27 (.tmp 5) (.tmp 38) rfl (w.heap.size + 3) zeroC rfl rfl _ _ C2.out.r3 size_term rfl (one4 _ _ _ _ _ _) ?_
      have C3 := Lib.hid (C2.out.set3 zeroC)
      refine then_rest (rest_end (by decide) ?_)
      go_wp2
      have hpost : ClsPost P (clsT t) w (.returned (.tuple #[.agg zeroC, .agg zeroC, .int .i64 12, .agg zeroC])) (((W0.setRow (w.heap.size + 1) zeroC).setRow (w.heap.size + 2) zeroC).setRow (w.heap.size + 3) zeroC) := by
        rw [HR2.out]
        exact ⟨none, 0, none, 0, none, 0, rfl, zero_is _ _, zero_is _ _, zero_is _ _, C3.out.bel⟩
      exact bodyPost_ret (v := .tuple #[.agg zeroC, .agg zeroC, .int .i64 12, .agg zeroC]) (results_four Try.results24 _ _ _ _ _ _ _ _ _ _ _ _ rfl rfl rfl rfl C3.out.r1 C3.out.r2 C3.out.r3 Try.underlying27 rfl (by kernel_rfl) (by kernel_rfl) (by kernel_rfl)) rfl hpost
    have b1 : (t.k == 1) = false := by simpa using k1
    replace HR := Lib.hid (HR.out.trans (if_neg k1))
    by_cases k2 : t.k = 2
    · have b2 : (t.k == 2) = true := by simp [k2]
      have HR2 := Lib.hid (HR.out.trans (if_pos k2))
      clear k1 k2
      go_wp2
      refine wp_region_rest (by kernel_rfl) ?_
      have hdw : Below WC.heap.size WC WC.drew := (Below.refl _ _).drew
      replace CX := Lib.hid (CX.out.below hdw)
      replace NR := Lib.hid ((hdw.block _ (Array.getElem?_eq_some_iff.1 NR.out).1).trans NR.out)
      replace RHx := Lib.hid ((hdw.block _ (Array.getElem?_eq_some_iff.1 RHx.out).1).trans RHx.out)
      replace IHx := Lib.hid (IHx.out.below hdw)
      clear hdw
      generalize WC.drew = W0 at *
      have ltNR := (Array.getElem?_eq_some_iff.1 NR.out).1
      have ltRHx := (Array.getElem?_eq_some_iff.1 RHx.out).1
      refine rest_chainM (fun u => Keeps W0 u (ClsM w)) 0 6 [(false, 0), (false, 1), (false, 2), (true, 3), (true, 4), (false, 5)] [(false, _), (false, _), (false, _), (true, _), (true, _), (false, _)] rfl (by kernel_rfl) (by kernel_rfl) (by kernel_rfl) (by kernel_rfl) (.inr (by kernel_rfl)) (Keeps.refl _ _) ?_
      refine chainM_soft (a1 := ?ma10) (by kernel_rfl) ?mh10 ?mr10
      case mh10 =>
        intro u hu E hE
        obtain ⟨n0, n1, n2, n3⟩ := row4 ((hu.block _ ltNR (by unfold ClsM; omega)).trans NR.out)
        go_wp2
        rfl
      refine chainM_soft (a1 := ?ma11) (by kernel_rfl) ?mh11 ?mr11
      case mh11 =>
        intro u hu E hE
        obtain ⟨n0, n1, n2, n3⟩ := row4 ((hu.block _ ltNR (by unfold ClsM; omega)).trans NR.out)
        go_wp2
        rfl
      refine chainM_soft (a1 := ?ma12) (by kernel_rfl) ?mh12 ?mr12
      case mh12 =>
        intro u hu E hE
        obtain ⟨n0, n1, n2, n3⟩ := row4 ((hu.block _ ltRHx (by unfold ClsM; omega)).trans RHx.out)
        go_wp2
        rfl
      refine chainM_one ?_
      intro E hE
      refine wpList_store_row rfl 27 (.tmp 2) (.tmp 42) rfl (w.heap.size + 1) zeroC rfl rfl _ _ CX.out.r1 size_term rfl (one4 _ _ _ _ _ _) ?_
      have k1 : Keeps W0 (W0.setRow (w.heap.size + 1) zeroC) (ClsM w) := (Keeps.refl _ _).set (.inl rfl) _
      refine hE _ _ ⟨k1, ?_⟩
      have C1 := Lib.hid (CX.out.set1 zeroC)
      refine chainM_one ?_
      intro E hE
      refine wpList_store_row rfl 27 (.tmp 3) (.tmp 43) rfl (w.heap.size + 2) zeroC rfl rfl _ _ C1.out.r2 size_term rfl (one4 _ _ _ _ _ _) ?_
      refine hE _ _ ⟨k1.set (.inr (.inl rfl)) _, ?_⟩
      have C2 := Lib.hid (C1.out.set2 zeroC)
      refine chainM_soft (a1 := ?ma13) (by kernel_rfl) ?mh13 ?mr13
      case mh13 =>
        intro u hu E hE
        go_wp2
        rfl
      refine chainM_nil ?_
      refine rest_lineL 6 7 [_] rfl (by kernel_rfl) (by decide) (by decide) (by kernel_rfl) ?_
      refine wpList_store_row rfl 27 (.tmp 5) (.tmp 44) rfl (w.heap.size + 3) #[.int .i64 t.k, .int .i64 t.n, .string t.s, .slice a t.args.length cap] rfl rfl _ _ C2.out.r3 size_term rfl (one4 _ _ _ _ _ _) ?_
      have C3 := Lib.hid (C2.out.set3 #[.int .i64 t.k, .int .i64 t.n, .string t.s, .slice a t.args.length cap])
      refine then_rest (rest_end (by decide) ?_)
      go_wp2
      have hpost : ClsPost P (clsT t) w (.returned (.tuple #[.agg zeroC, .agg zeroC, .int .i64 13, .agg #[.int .i64 t.k, .int .i64 t.n, .string t.s, .slice a t.args.length cap]])) (((W0.setRow (w.heap.size + 1) zeroC).setRow (w.heap.size + 2) zeroC).setRow (w.heap.size + 3) #[.int .i64 t.k, .int .i64 t.n, .string t.s, .slice a t.args.length cap]) := by
        rw [HR2.out]
        exact ⟨none, 0, none, 0, a, cap, rfl, zero_is _ _, zero_is _ _, set3_is IHx.out (fun b h => h), C3.out.bel⟩
      exact bodyPost_ret (v := .tuple #[.agg zeroC, .agg zeroC, .int .i64 13, .agg #[.int .i64 t.k, .int .i64 t.n, .string t.s, .slice a t.args.length cap]]) (results_four Try.results24 _ _ _ _ _ _ _ _ _ _ _ _ rfl rfl rfl rfl C3.out.r1 C3.out.r2 C3.out.r3 Try.underlying27 rfl (by kernel_rfl) (by kernel_rfl) (by kernel_rfl)) rfl hpost
    have b2 : (t.k == 2) = false := by simpa using k2
    replace HR := Lib.hid (HR.out.trans (if_neg k2))
    clear k1 k2
    obtain ⟨g0, g1, g2, g3⟩ := row4 RB.out
    go_wp2_with fail
    refine (ref_Body15 (atomT (⟨#[116, 114, 117, 101]⟩ : ByteArray)) _ _ _ hszB IB.out).mono ?_
    generalize bodE (atomT (⟨#[116, 114, 117, 101]⟩ : ByteArray)) = RE at *
    obtain ⟨Z, eZ⟩ := RE
    simp only [RbePost]
    simp only at HR
    rintro e6 w6 ⟨za, zc, rfl, hi6, hb6⟩
    have hzw : w.heap.size + 4 ≤ WC.heap.size := CX.out.big
    have hb7 := hb6.trans ((below_new w6 (rowT Z za zc)).mono hb6.size)
    replace CX := Lib.hid (CX.out.below hb7)
    replace NR := Lib.hid ((hb7.block _ (Array.getElem?_eq_some_iff.1 NR.out).1).trans NR.out)
    replace RHx := Lib.hid ((hb7.block _ (Array.getElem?_eq_some_iff.1 RHx.out).1).trans RHx.out)
    replace RB := Lib.hid ((hb7.block _ (Array.getElem?_eq_some_iff.1 RB.out).1).trans RB.out)
    replace IHx := Lib.hid (IHx.out.below hb7)
    replace IB := Lib.hid (IB.out.below hb7)
    have IZ := Lib.hid ((hi6.below (below_new w6 (rowT Z za zc))).imp (P' := fun b => (P b ∧ b < w.heap.size) ∨ w.heap.size + 3 < b) (fun b h => h.elim (fun h => h) fun h => .inr (by omega)) fun _ _ _ => rfl)
    have RZ := Lib.hid (heap_alloc_new w6 (rowT Z za zc))
    have hbz : w.heap.size + 3 < w6.heap.size := by have := hb6.size; omega
    clear hb6 hb7 hi6 h0 h1 h2 h3 g0 g1 g2 g3
    by_cases e13 : eZ = 13
    · subst e13
      have HR2 := Lib.hid (HR.out.trans (if_pos rfl))
      go_wp2
      refine wp_region_rest (by kernel_rfl) ?_
      have hdw : Below (w6.alloc (rowT Z za zc)).heap.size (w6.alloc (rowT Z za zc)) (w6.alloc (rowT Z za zc)).drew := (Below.refl _ _).drew
      replace CX := Lib.hid (CX.out.below hdw)
      replace NR := Lib.hid ((hdw.block _ (Array.getElem?_eq_some_iff.1 NR.out).1).trans NR.out)
      replace RB := Lib.hid ((hdw.block _ (Array.getElem?_eq_some_iff.1 RB.out).1).trans RB.out)
      replace IB := Lib.hid (IB.out.below hdw)
      clear hdw
      generalize (w6.alloc (rowT Z za zc)).drew = W0 at *
      have ltNR := (Array.getElem?_eq_some_iff.1 NR.out).1
      have ltRB := (Array.getElem?_eq_some_iff.1 RB.out).1
      refine rest_chainM (fun u => Keeps W0 u (ClsM w)) 0 7 [(false, 0), (false, 1), (false, 2), (false, 3), (true, 4), (true, 5), (false, 6)] [(false, _), (false, _), (false, _), (false, _), (true, _), (true, _), (false, _)] rfl (by kernel_rfl) (by kernel_rfl) (by kernel_rfl) (by kernel_rfl) (.inr (by kernel_rfl)) (Keeps.refl _ _) ?_
      refine chainM_soft (a1 := ?ma14) (by kernel_rfl) ?mh14 ?mr14
      case mh14 =>
        intro u hu E hE
        obtain ⟨n0, n1, n2, n3⟩ := row4 ((hu.block _ ltNR (by unfold ClsM; omega)).trans NR.out)
        go_wp2
        rfl
      refine chainM_soft (a1 := ?ma15) (by kernel_rfl) ?mh15 ?mr15
      case mh15 =>
        intro u hu E hE
        obtain ⟨n0, n1, n2, n3⟩ := row4 ((hu.block _ ltNR (by unfold ClsM; omega)).trans NR.out)
        go_wp2
        rfl
      refine chainM_soft (a1 := ?ma16) (by kernel_rfl) ?mh16 ?mr16
      case mh16 =>
        intro u hu E hE
        go_wp2
        rfl
      refine chainM_soft (a1 := ?ma17) (by kernel_rfl) ?mh17 ?mr17
      case mh17 =>
        intro u hu E hE
        obtain ⟨n0, n1, n2, n3⟩ := row4 ((hu.block _ ltRB (by unfold ClsM; omega)).trans RB.out)
        go_wp2
        rfl
      refine chainM_one ?_
      intro E hE
      refine wpList_store_row rfl 27 (.tmp 2) (.tmp 52) rfl (w.heap.size + 1) zeroC rfl rfl _ _ CX.out.r1 size_term rfl (one4 _ _ _ _ _ _) ?_
      have k1 : Keeps W0 (W0.setRow (w.heap.size + 1) zeroC) (ClsM w) := (Keeps.refl _ _).set (.inl rfl) _
      refine hE _ _ ⟨k1, ?_⟩
      have C1 := Lib.hid (CX.out.set1 zeroC)
      refine chainM_one ?_
      intro E hE
      refine wpList_store_row rfl 27 (.tmp 3) (.tmp 53) rfl (w.heap.size + 2) zeroC rfl rfl _ _ C1.out.r2 size_term rfl (one4 _ _ _ _ _ _) ?_
      refine hE _ _ ⟨k1.set (.inr (.inl rfl)) _, ?_⟩
      have C2 := Lib.hid (C1.out.set2 zeroC)
      refine chainM_soft (a1 := ?ma18) (by kernel_rfl) ?mh18 ?mr18
      case mh18 =>
        intro u hu E hE
        go_wp2
        rfl
      refine chainM_nil ?_
      refine rest_lineL 7 8 [_] rfl (by kernel_rfl) (by decide) (by decide) (by kernel_rfl) ?_
      refine wpList_store_row rfl 27 (.tmp 5) (.tmp 55) rfl (w.heap.size + 3) #[.int .i64 (atomT (⟨#[116, 114, 117, 101]⟩ : ByteArray)).k, .int .i64 (atomT (⟨#[116, 114, 117, 101]⟩ : ByteArray)).n, .string (atomT (⟨#[116, 114, 117, 101]⟩ : ByteArray)).s, .slice none (atomT (⟨#[116, 114, 117, 101]⟩ : ByteArray)).args.length 0] rfl rfl _ _ C2.out.r3 size_term rfl (one4 _ _ _ _ _ _) ?_
      have C3 := Lib.hid (C2.out.set3 #[.int .i64 (atomT (⟨#[116, 114, 117, 101]⟩ : ByteArray)).k, .int .i64 (atomT (⟨#[116, 114, 117, 101]⟩ : ByteArray)).n, .string (atomT (⟨#[116, 114, 117, 101]⟩ : ByteArray)).s, .slice none (atomT (⟨#[116, 114, 117, 101]⟩ : ByteArray)).args.length 0])
      refine then_rest (rest_end (by decide) ?_)
      go_wp2
      have hpost : ClsPost P (clsT t) w (.returned (.tuple #[.agg zeroC, .agg zeroC, .int .i64 13, .agg #[.int .i64 (atomT (⟨#[116, 114, 117, 101]⟩ : ByteArray)).k, .int .i64 (atomT (⟨#[116, 114, 117, 101]⟩ : ByteArray)).n, .string (atomT (⟨#[116, 114, 117, 101]⟩ : ByteArray)).s, .slice none (atomT (⟨#[116, 114, 117, 101]⟩ : ByteArray)).args.length 0]])) (((W0.setRow (w.heap.size + 1) zeroC).setRow (w.heap.size + 2) zeroC).setRow (w.heap.size + 3) #[.int .i64 (atomT (⟨#[116, 114, 117, 101]⟩ : ByteArray)).k, .int .i64 (atomT (⟨#[116, 114, 117, 101]⟩ : ByteArray)).n, .string (atomT (⟨#[116, 114, 117, 101]⟩ : ByteArray)).s, .slice none (atomT (⟨#[116, 114, 117, 101]⟩ : ByteArray)).args.length 0]) := by
        rw [HR2.out]
        exact ⟨none, 0, none, 0, none, 0, rfl, zero_is _ _, zero_is _ _, set3_is IB.out (fun b h => h), C3.out.bel⟩
      exact bodyPost_ret (v := .tuple #[.agg zeroC, .agg zeroC, .int .i64 13, .agg #[.int .i64 (atomT (⟨#[116, 114, 117, 101]⟩ : ByteArray)).k, .int .i64 (atomT (⟨#[116, 114, 117, 101]⟩ : ByteArray)).n, .string (atomT (⟨#[116, 114, 117, 101]⟩ : ByteArray)).s, .slice none (atomT (⟨#[116, 114, 117, 101]⟩ : ByteArray)).args.length 0]]) (results_four Try.results24 _ _ _ _ _ _ _ _ _ _ _ _ rfl rfl rfl rfl C3.out.r1 C3.out.r2 C3.out.r3 Try.underlying27 rfl (by kernel_rfl) (by kernel_rfl) (by kernel_rfl)) rfl hpost
    have b13 : (eZ == 13) = false := by simpa using e13
    replace HR := Lib.hid (HR.out.trans (if_neg e13))
    clear e13
    by_cases e0 : eZ = 0
    · subst e0
      have HR2 := Lib.hid (HR.out.trans (if_neg (by simp)))
      go_wp2
      refine wp_region_rest (by kernel_rfl) ?_
      have hdw : Below (w6.alloc (rowT Z za zc)).heap.size (w6.alloc (rowT Z za zc)) (w6.alloc (rowT Z za zc)).drew := (Below.refl _ _).drew
      replace CX := Lib.hid (CX.out.below hdw)
      replace NR := Lib.hid ((hdw.block _ (Array.getElem?_eq_some_iff.1 NR.out).1).trans NR.out)
      replace RHx := Lib.hid ((hdw.block _ (Array.getElem?_eq_some_iff.1 RHx.out).1).trans RHx.out)
      replace RZ := Lib.hid ((hdw.block _ (Array.getElem?_eq_some_iff.1 RZ.out).1).trans RZ.out)
      replace IHx := Lib.hid (IHx.out.below hdw)
      replace IZ := Lib.hid (IZ.out.below hdw)
      clear hdw
      generalize (w6.alloc (rowT Z za zc)).drew = W0 at *
      have ltNR := (Array.getElem?_eq_some_iff.1 NR.out).1
      have ltRHx := (Array.getElem?_eq_some_iff.1 RHx.out).1
      have ltRZ := (Array.getElem?_eq_some_iff.1 RZ.out).1
      refine rest_chainM (fun u => Keeps W0 u (ClsM w)) 0 6 [(false, 0), (false, 1), (false, 2), (true, 3), (true, 4), (false, 5)] [(false, _), (false, _), (false, _), (true, _), (true, _), (false, _)] rfl (by kernel_rfl) (by kernel_rfl) (by kernel_rfl) (by kernel_rfl) (.inr (by kernel_rfl)) (Keeps.refl _ _) ?_
      refine chainM_soft (a1 := ?ma19) (by kernel_rfl) ?mh19 ?mr19
      case mh19 =>
        intro u hu E hE
        obtain ⟨n0, n1, n2, n3⟩ := row4 ((hu.block _ ltRHx (by unfold ClsM; omega)).trans RHx.out)
        go_wp2
        rfl
      refine chainM_soft (a1 := ?ma20) (by kernel_rfl) ?mh20 ?mr20
      case mh20 =>
        intro u hu E hE
        obtain ⟨n0, n1, n2, n3⟩ := row4 ((hu.block _ ltRZ (by unfold ClsM; omega)).trans RZ.out)
        go_wp2
        rfl
      refine chainM_soft (a1 := ?ma21) (by kernel_rfl) ?mh21 ?mr21
      case mh21 =>
        intro u hu E hE
        obtain ⟨n0, n1, n2, n3⟩ := row4 ((hu.block _ ltNR (by unfold ClsM; omega)).trans NR.out)
        go_wp2
        rfl
      refine chainM_one ?_
      intro E hE
      refine wpList_store_row rfl 27 (.tmp 2) (.tmp 62) rfl (w.heap.size + 1) #[.int .i64 t.k, .int .i64 t.n, .string t.s, .slice a t.args.length cap] rfl rfl _ _ CX.out.r1 size_term rfl (one4 _ _ _ _ _ _) ?_
      have k1 : Keeps W0 (W0.setRow (w.heap.size + 1) #[.int .i64 t.k, .int .i64 t.n, .string t.s, .slice a t.args.length cap]) (ClsM w) := (Keeps.refl _ _).set (.inl rfl) _
      refine hE _ _ ⟨k1, ?_⟩
      have C1 := Lib.hid (CX.out.set1 #[.int .i64 t.k, .int .i64 t.n, .string t.s, .slice a t.args.length cap])
      refine chainM_one ?_
      intro E hE
      refine wpList_store_row rfl 27 (.tmp 3) (.tmp 63) rfl (w.heap.size + 2) #[.int .i64 Z.k, .int .i64 Z.n, .string Z.s, .slice za Z.args.length zc] rfl rfl _ _ C1.out.r2 size_term rfl (one4 _ _ _ _ _ _) ?_
      refine hE _ _ ⟨k1.set (.inr (.inl rfl)) _, ?_⟩
      have C2 := Lib.hid (C1.out.set2 #[.int .i64 Z.k, .int .i64 Z.n, .string Z.s, .slice za Z.args.length zc])
      refine chainM_soft (a1 := ?ma22) (by kernel_rfl) ?mh22 ?mr22
      case mh22 =>
        intro u hu E hE
        go_wp2
        rfl
      refine chainM_nil ?_
      refine rest_lineL 6 7 [_] rfl (by kernel_rfl) (by decide) (by decide) (by kernel_rfl) ?_
      refine wpList_store_row rfl 27 (.tmp 5) (.tmp 64) rfl (w.heap.size + 3) zeroC rfl rfl _ _ C2.out.r3 size_term rfl (one4 _ _ _ _ _ _) ?_
      have C3 := Lib.hid (C2.out.set3 zeroC)
      refine then_rest (rest_end (by decide) ?_)
      go_wp2
      have hpost : ClsPost P (clsT t) w (.returned (.tuple #[.agg #[.int .i64 t.k, .int .i64 t.n, .string t.s, .slice a t.args.length cap], .agg #[.int .i64 Z.k, .int .i64 Z.n, .string Z.s, .slice za Z.args.length zc], .int .i64 0, .agg zeroC])) (((W0.setRow (w.heap.size + 1) #[.int .i64 t.k, .int .i64 t.n, .string t.s, .slice a t.args.length cap]).setRow (w.heap.size + 2) #[.int .i64 Z.k, .int .i64 Z.n, .string Z.s, .slice za Z.args.length zc]).setRow (w.heap.size + 3) zeroC) := by
        rw [HR2.out]
        exact ⟨a, cap, za, zc, none, 0, rfl, set3_is IHx.out (fun b h => h), set3_is IZ.out (fun b h => h), zero_is _ _, C3.out.bel⟩
      exact bodyPost_ret (v := .tuple #[.agg #[.int .i64 t.k, .int .i64 t.n, .string t.s, .slice a t.args.length cap], .agg #[.int .i64 Z.k, .int .i64 Z.n, .string Z.s, .slice za Z.args.length zc], .int .i64 0, .agg zeroC]) (results_four Try.results24 _ _ _ _ _ _ _ _ _ _ _ _ rfl rfl rfl rfl C3.out.r1 C3.out.r2 C3.out.r3 Try.underlying27 rfl (by kernel_rfl) (by kernel_rfl) (by kernel_rfl)) rfl hpost
    have b0 : (eZ != 0) = true := by simpa using e0
    have HR2 := Lib.hid (HR.out.trans (if_pos e0))
    clear e0
    go_wp2
    refine wp_region_rest (by kernel_rfl) ?_
    have hdw : Below (w6.alloc (rowT Z za zc)).heap.size (w6.alloc (rowT Z za zc)) (w6.alloc (rowT Z za zc)).drew := (Below.refl _ _).drew
    replace CX := Lib.hid (CX.out.below hdw)
    replace NR := Lib.hid ((hdw.block _ (Array.getElem?_eq_some_iff.1 NR.out).1).trans NR.out)
    clear hdw
    generalize (w6.alloc (rowT Z za zc)).drew = W0 at *
    have ltNR := (Array.getElem?_eq_some_iff.1 NR.out).1
    refine rest_chainM (fun u => Keeps W0 u (ClsM w)) 0 7 [(false, 0), (false, 1), (false, 2), (false, 3), (true, 4), (true, 5), (false, 6)] [(false, _), (false, _), (false, _), (false, _), (true, _), (true, _), (false, _)] rfl (by kernel_rfl) (by kernel_rfl) (by kernel_rfl) (by kernel_rfl) (.inr (by kernel_rfl)) (Keeps.refl _ _) ?_
    refine chainM_soft (a1 := ?ma23) (by kernel_rfl) ?mh23 ?mr23
    case mh23 =>
      intro u hu E hE
      obtain ⟨n0, n1, n2, n3⟩ := row4 ((hu.block _ ltNR (by unfold ClsM; omega)).trans NR.out)
      go_wp2
      rfl
    refine chainM_soft (a1 := ?ma24) (by kernel_rfl) ?mh24 ?mr24
    case mh24 =>
      intro u hu E hE
      obtain ⟨n0, n1, n2, n3⟩ := row4 ((hu.block _ ltNR (by unfold ClsM; omega)).trans NR.out)
      go_wp2
      rfl
    refine chainM_soft (a1 := ?ma25) (by kernel_rfl) ?mh25 ?mr25
    case mh25 =>
      intro u hu E hE
      go_wp2
      rfl
    refine chainM_soft (a1 := ?ma26) (by kernel_rfl) ?mh26 ?mr26
    case mh26 =>
      intro u hu E hE
      obtain ⟨n0, n1, n2, n3⟩ := row4 ((hu.block _ ltNR (by unfold ClsM; omega)).trans NR.out)
      go_wp2
      rfl
    refine chainM_one ?_
    intro E hE
    refine wpList_store_row rfl 27 (.tmp 2) (.tmp 58) rfl (w.heap.size + 1) zeroC rfl rfl _ _ CX.out.r1 size_term rfl (one4 _ _ _ _ _ _) ?_
    have k1 : Keeps W0 (W0.setRow (w.heap.size + 1) zeroC) (ClsM w) := (Keeps.refl _ _).set (.inl rfl) _
    refine hE _ _ ⟨k1, ?_⟩
    have C1 := Lib.hid (CX.out.set1 zeroC)
    refine chainM_one ?_
    intro E hE
    refine wpList_store_row rfl 27 (.tmp 3) (.tmp 59) rfl (w.heap.size + 2) zeroC rfl rfl _ _ C1.out.r2 size_term rfl (one4 _ _ _ _ _ _) ?_
    refine hE _ _ ⟨k1.set (.inr (.inl rfl)) _, ?_⟩
    have C2 := Lib.hid (C1.out.set2 zeroC)
    refine chainM_soft (a1 := ?ma27) (by kernel_rfl) ?mh27 ?mr27
    case mh27 =>
      intro u hu E hE
      go_wp2
      rfl
    refine chainM_nil ?_
    refine rest_lineL 7 8 [_] rfl (by kernel_rfl) (by decide) (by decide) (by kernel_rfl) ?_
    refine wpList_store_row rfl 27 (.tmp 5) (.tmp 61) rfl (w.heap.size + 3) zeroC rfl rfl _ _ C2.out.r3 size_term rfl (one4 _ _ _ _ _ _) ?_
    have C3 := Lib.hid (C2.out.set3 zeroC)
    refine then_rest (rest_end (by decide) ?_)
    go_wp2
    have hpost : ClsPost P (clsT t) w (.returned (.tuple #[.agg zeroC, .agg zeroC, .int .i64 eZ, .agg zeroC])) (((W0.setRow (w.heap.size + 1) zeroC).setRow (w.heap.size + 2) zeroC).setRow (w.heap.size + 3) zeroC) := by
      rw [HR2.out]
      exact ⟨none, 0, none, 0, none, 0, rfl, zero_is _ _, zero_is _ _, zero_is _ _, C3.out.bel⟩
    exact bodyPost_ret (v := .tuple #[.agg zeroC, .agg zeroC, .int .i64 eZ, .agg zeroC]) (results_four Try.results24 _ _ _ _ _ _ _ _ _ _ _ _ rfl rfl rfl rfl C3.out.r1 C3.out.r2 C3.out.r3 Try.underlying27 rfl (by kernel_rfl) (by kernel_rfl) (by kernel_rfl)) rfl hpost
  case true =>
    obtain ⟨-, -, hag⟩ := rule_args hru
    have hps := rule_size hru
    have hH : headC t = lftT t := by unfold headC; rw [hru]; rfl
    have hB : restC t = rgtT t := by unfold restC; rw [hru]; rfl
    rw [hH, hB] at HR
    have HLI : Hid (t.args.length = 2) := Lib.hid (by rw [hag]; rfl)
    have hin0 : (0 : Int) < (t.args.length : Int) := by have := HLI.out; omega
    have hin1 : (1 : Int) < (t.args.length : Int) := by have := HLI.out; omega
    have hg0 : ∀ h : 0 < t.args.length, t.args[0] = lftT t := fun h => by simp only [hag]; rfl
    have hg1 : ∀ h : 1 < t.args.length, t.args[1] = rgtT t := fun h => by simp only [hag]; rfl
    have HL2 := Lib.hid (HL.out.below CX.out.bel)
    obtain ⟨xb, xo, rfl, hPb, m0⟩ := HL2.out.args.at 0 (by have := HLI.out; omega)
    obtain ⟨xb', xo', e', -, m1⟩ := HL2.out.args.at 1 (by have := HLI.out; omega)
    simp only [Option.some.injEq, Addr.mk.injEq, and_true] at e'
    obtain ⟨rfl, rfl⟩ := e'
    rw [hg0] at m0
    rw [hg1] at m1
    obtain ⟨pa, pc, p0, p1, p2, p3, pi, -⟩ := m0.read
    obtain ⟨qa, qc, q0, q1, q2, q3, qi, -⟩ := m1.read
    simp only [Nat.zero_mul, Nat.one_mul, Nat.add_zero] at p0 p1 p2 p3 q0 q1 q2 q3
    have hxlt : xb < WC.heap.size := World.block_lt_of_cell? _ _ p0
    have hxw : xb < w.heap.size := hPb.2
    have PI := Lib.hid pi
    have QI := Lib.hid qi
    clear pi qi m0 m1 hg0 hg1 hag hH hB hru HL HL2
    generalize lftT t = X at *
    generalize rgtT t = Y at *
    have hszB : Y.size ≤ 100000000 := by omega
    obtain ⟨-, -, -, x3⟩ := row4 CX.out.box
    go_wp2
    refine wp_region_rest (by kernel_rfl) ?_
    have hdw : Below WC.heap.size WC WC.drew := (Below.refl _ _).drew
    replace CX := Lib.hid (CX.out.below hdw)
    replace NR := Lib.hid ((hdw.block _ (Array.getElem?_eq_some_iff.1 NR.out).1).trans NR.out)
    replace RH0 := Lib.hid ((hdw.block _ (Array.getElem?_eq_some_iff.1 RH0.out).1).trans RH0.out)
    replace RB0 := Lib.hid ((hdw.block _ (Array.getElem?_eq_some_iff.1 RB0.out).1).trans RB0.out)
    replace PI := Lib.hid (PI.out.below hdw)
    replace QI := Lib.hid (QI.out.below hdw)
    have hblt : w.heap.size < WC.drew.heap.size := by have : WC.drew.heap.size = WC.heap.size := rfl; omega
    replace x3 := (hdw.cell (p := ⟨w.heap.size, 3, none⟩) (show w.heap.size < WC.heap.size by omega)).trans x3
    replace p0 := (hdw.cell (p := ⟨xb, xo, none⟩) hxlt).trans p0
    replace p1 := (hdw.cell (p := ⟨xb, xo + 1, none⟩) hxlt).trans p1
    replace p2 := (hdw.cell (p := ⟨xb, xo + 2, none⟩) hxlt).trans p2
    replace p3 := (hdw.cell (p := ⟨xb, xo + 3, none⟩) hxlt).trans p3
    replace q0 := (hdw.cell (p := ⟨xb, xo + 4, none⟩) hxlt).trans q0
    replace q1 := (hdw.cell (p := ⟨xb, xo + 4 + 1, none⟩) hxlt).trans q1
    replace q2 := (hdw.cell (p := ⟨xb, xo + 4 + 2, none⟩) hxlt).trans q2
    replace q3 := (hdw.cell (p := ⟨xb, xo + 4 + 3, none⟩) hxlt).trans q3
    replace hxlt : xb < WC.drew.heap.size := hxlt
    clear hdw hzc
    generalize WC.drew = W0 at *
    have hxne : ¬ (xb = w2.heap.size) := by omega
    have hbne : ¬ (w.heap.size = w2.heap.size) := by omega
    refine rest_chainM (fun u => Keeps W0 u (fun b => b = w2.heap.size)) 0 9 [(false, 0), (false, 1), (false, 2), (false, 3), (false, 4), (false, 5), (false, 6), (false, 7), (true, 8)] [(false, _), (false, _), (false, _), (false, _), (false, _), (false, _), (false, _), (false, _), (true, _)] rfl (by kernel_rfl) (by kernel_rfl) (by kernel_rfl) (by kernel_rfl) (.inr (by kernel_rfl)) (Keeps.refl _ _) ?_
    refine chainM_soft (a1 := ?ma28) (by kernel_rfl) ?mh28 ?mr28
    case mh28 =>
      intro u hu E hE
      go_wp2
      rfl
    refine chainM_soft (a1 := ?ma29) (by kernel_rfl) ?mh29 ?mr29
    case mh29 =>
      intro u hu E hE
      have ub3 := (World.cell?_of_block (w := W0) (w' := u) (a := ⟨w.heap.size, 3, none⟩) (hu.block w.heap.size hblt hbne)).trans x3
      go_wp2
      rfl
    refine chainM_soft (a1 := ?ma30) (by kernel_rfl) ?mh30 ?mr30
    case mh30 =>
      intro u hu E hE
      go_wp2
      rfl
    refine chainM_soft (a1 := ?ma31) (by kernel_rfl) ?mh31 ?mr31
    case mh31 =>
      intro u hu E hE
      have up0 := (World.cell?_of_block (w := W0) (w' := u) (a := ⟨xb, xo, none⟩) (hu.block xb hxlt hxne)).trans p0
      have up1 := (World.cell?_of_block (w := W0) (w' := u) (a := ⟨xb, xo + 1, none⟩) (hu.block xb hxlt hxne)).trans p1
      have up2 := (World.cell?_of_block (w := W0) (w' := u) (a := ⟨xb, xo + 2, none⟩) (hu.block xb hxlt hxne)).trans p2
      have up3 := (World.cell?_of_block (w := W0) (w' := u) (a := ⟨xb, xo + 3, none⟩) (hu.block xb hxlt hxne)).trans p3
      go_wp2
      rfl
    refine chainM_soft (a1 := ?ma32) (by kernel_rfl) ?mh32 ?mr32
    case mh32 =>
      intro u hu E hE
      go_wp2
      rfl
    refine chainM_soft (a1 := ?ma33) (by kernel_rfl) ?mh33 ?mr33
    case mh33 =>
      intro u hu E hE
      have ub3 := (World.cell?_of_block (w := W0) (w' := u) (a := ⟨w.heap.size, 3, none⟩) (hu.block w.heap.size hblt hbne)).trans x3
      go_wp2
      rfl
    refine chainM_soft (a1 := ?ma34) (by kernel_rfl) ?mh34 ?mr34
    case mh34 =>
      intro u hu E hE
      go_wp2
      rfl
    refine chainM_soft (a1 := ?ma35) (by kernel_rfl) ?mh35 ?mr35
    case mh35 =>
      intro u hu E hE
      have uq0 := (World.cell?_of_block (w := W0) (w' := u) (a := ⟨xb, xo + 4, none⟩) (hu.block xb hxlt hxne)).trans q0
      have uq1 := (World.cell?_of_block (w := W0) (w' := u) (a := ⟨xb, xo + 4 + 1, none⟩) (hu.block xb hxlt hxne)).trans q1
      have uq2 := (World.cell?_of_block (w := W0) (w' := u) (a := ⟨xb, xo + 4 + 2, none⟩) (hu.block xb hxlt hxne)).trans q2
      have uq3 := (World.cell?_of_block (w := W0) (w' := u) (a := ⟨xb, xo + 4 + 3, none⟩) (hu.block xb hxlt hxne)).trans q3
      go_wp2
      rfl
    refine chainM_one ?_
    intro E hE
    refine wpList_store_row rfl 27 (.tmp 8) (.tmp 28) rfl w2.heap.size #[.int .i64 X.k, .int .i64 X.n, .string X.s, .slice pa X.args.length pc] rfl rfl _ _ RH0.out size_term rfl (one4 _ _ _ _ _ _) ?_
    refine hE _ _ ⟨Keeps.set (M := fun b => b = w2.heap.size) (Keeps.refl _ _) rfl _, ?_⟩
    refine chainM_nil ?_
    have RB1 := Lib.hid (show (W0.setRow w2.heap.size #[.int .i64 X.k, .int .i64 X.n, .string X.s, .slice pa X.args.length pc]).heap[w2.heap.size + 1]? = _ from (setRow_other _ _ _ _ (by omega)).trans RB0.out)
    refine rest_lineL 9 10 [_] rfl (by kernel_rfl) (by decide) (by decide) (by kernel_rfl) ?_
    refine wpList_store_row rfl 27 (.tmp 9) (.tmp 32) rfl (w2.heap.size + 1) #[.int .i64 Y.k, .int .i64 Y.n, .string Y.s, .slice qa Y.args.length qc] rfl rfl _ _ RB1.out size_term rfl (one4 _ _ _ _ _ _) ?_
    have hbl : Below (w.heap.size + 4) W0 ((W0.setRow w2.heap.size #[.int .i64 X.k, .int .i64 X.n, .string X.s, .slice pa X.args.length pc]).setRow (w2.heap.size + 1) #[.int .i64 Y.k, .int .i64 Y.n, .string Y.s, .slice qa Y.args.length qc]) := below_setRow (below_setRow (Below.refl _ _) (by omega) _) (by omega) _
    have rh := (show ((W0.setRow w2.heap.size #[.int .i64 X.k, .int .i64 X.n, .string X.s, .slice pa X.args.length pc]).setRow (w2.heap.size + 1) #[.int .i64 Y.k, .int .i64 Y.n, .string Y.s, .slice qa Y.args.length qc]).heap[w2.heap.size]? = _ from (setRow_other _ _ _ _ (by omega)).trans (setRow_heap _ _ _ _ _ _ RH0.out))
    have rb := setRow_heap _ _ _ (#[.int .i64 Y.k, .int .i64 Y.n, .string Y.s, .slice qa Y.args.length qc] : Array Value) _ _ RB1.out
    replace NR := Lib.hid (show ((W0.setRow w2.heap.size #[.int .i64 X.k, .int .i64 X.n, .string X.s, .slice pa X.args.length pc]).setRow (w2.heap.size + 1) #[.int .i64 Y.k, .int .i64 Y.n, .string Y.s, .slice qa Y.args.length qc]).heap[w.heap.size + 4]? = _ from (setRow_other _ _ _ _ (by omega)).trans ((setRow_other _ _ _ _ (by omega)).trans NR.out))
    replace CX := Lib.hid (CX.out.on hbl)
    have IHx := Lib.hid (PI.out.imp (P' := fun b => (P b ∧ b < w.heap.size) ∨ w.heap.size + 3 < b) (fun b h => .inl h) fun b h _ => hbl.block b (by have := h.2; omega))
    have IB := Lib.hid (QI.out.imp (P' := fun b => (P b ∧ b < w.heap.size) ∨ w.heap.size + 3 < b) (fun b h => .inl h) fun b h _ => hbl.block b (by have := h.2; omega))
    have RHx := Lib.hid rh
    have RB := Lib.hid rb
    have hbh : w.heap.size + 3 < w2.heap.size := by omega
    clear RH0 RB0 RB1 PI QI p0 p1 p2 p3 q0 q1 q2 q3 x3 hbl rh rb hxlt hxne hbne hblt
    refine then_rest (rest_end (by decide) ?_)
    generalize (W0.setRow w2.heap.size #[.int .i64 X.k, .int .i64 X.n, .string X.s, .slice pa X.args.length pc]).setRow (w2.heap.size + 1) #[.int .i64 Y.k, .int .i64 Y.n, .string Y.s, .slice qa Y.args.length qc] = WE at *
    obtain ⟨h0, h1, h2, h3⟩ := row4 RHx.out
    by_cases k1 : X.k = 1
    · have b1 : (X.k == 1) = true := by simp [k1]
      have HR2 := Lib.hid (HR.out.trans (if_pos k1))
      clear k1
      go_wp2
      refine wp_region_rest (by kernel_rfl) ?_
      have hdw : Below WE.heap.size WE WE.drew := (Below.refl _ _).drew
      replace CX := Lib.hid (CX.out.below hdw)
      replace NR := Lib.hid ((hdw.block _ (Array.getElem?_eq_some_iff.1 NR.out).1).trans NR.out)
      clear hdw
      generalize WE.drew = W0 at *
      have ltNR := (Array.getElem?_eq_some_iff.1 NR.out).1
      refine rest_chainM (fun u => Keeps W0 u (ClsM w)) 0 6 [(false, 0), (false, 1), (false, 2), (true, 3), (true, 4), (false, 5)] [(false, _), (false, _), (false, _), (true, _), (true, _), (false, _)] rfl (by kernel_rfl) (by kernel_rfl) (by kernel_rfl) (by kernel_rfl) (.inr (by kernel_rfl)) (Keeps.refl _ _) ?_
      refine chainM_soft (a1 := ?ma36) (by kernel_rfl) ?mh36 ?mr36
      case mh36 =>
        intro u hu E hE
        obtain ⟨n0, n1, n2, n3⟩ := row4 ((hu.block _ ltNR (by unfold ClsM; omega)).trans NR.out)
        go_wp2
        rfl
      refine chainM_soft (a1 := ?ma37) (by kernel_rfl) ?mh37 ?mr37
      case mh37 =>
        intro u hu E hE
        obtain ⟨n0, n1, n2, n3⟩ := row4 ((hu.block _ ltNR (by unfold ClsM; omega)).trans NR.out)
        go_wp2
        rfl
      refine chainM_soft (a1 := ?ma38) (by kernel_rfl) ?mh38 ?mr38
      case mh38 =>
        intro u hu E hE
        obtain ⟨n0, n1, n2, n3⟩ := row4 ((hu.block _ ltNR (by unfold ClsM; omega)).trans NR.out)
        go_wp2
        rfl
      refine chainM_one ?_
      intro E hE
      refine wpList_store_row rfl 27 (.tmp 2) (.tmp 36) rfl (w.heap.size + 1) zeroC rfl rfl _ _ CX.out.r1 size_term rfl (one4 _ _ _ _ _ _) ?_
      have k1 : Keeps W0 (W0.setRow (w.heap.size + 1) zeroC) (ClsM w) := (Keeps.refl _ _).set (.inl rfl) _
      refine hE _ _ ⟨k1, ?_⟩
      have C1 := Lib.hid (CX.out.set1 zeroC)
      refine chainM_one ?_
      intro E hE
      refine wpList_store_row rfl 27 (.tmp 3) (.tmp 37) rfl (w.heap.size + 2) zeroC rfl rfl _ _ C1.out.r2 size_term rfl (one4 _ _ _ _ _ _) ?_
      refine hE _ _ ⟨k1.set (.inr (.inl rfl)) _, ?_⟩
      have C2 := Lib.hid (C1.out.set2 zeroC)
      refine chainM_soft (a1 := ?ma39) (by kernel_rfl) ?mh39 ?mr39
      case mh39 =>
        intro u hu E hE
        go_wp2
        rfl
      refine chainM_nil ?_
      refine rest_lineL 6 7 [_] rfl (by kernel_rfl) (by decide) (by decide) (by kernel_rfl) ?_
      refine wpList_store_row rfl 27 (.tmp 5) (.tmp 38) rfl (w.heap.size + 3) zeroC rfl rfl _ _ C2.out.r3 size_term rfl (one4 _ _ _ _ _ _) ?_
      have C3 := Lib.hid (C2.out.set3 zeroC)
      refine then_rest (rest_end (by decide) ?_)
      go_wp2
      have hpost : ClsPost P (clsT t) w (.returned (.tuple #[.agg zeroC, .agg zeroC, .int .i64 12, .agg zeroC])) (((W0.setRow (w.heap.size + 1) zeroC).setRow (w.heap.size + 2) zeroC).setRow (w.heap.size + 3) zeroC) := by
        rw [HR2.out]
        exact ⟨none, 0, none, 0, none, 0, rfl, zero_is _ _, zero_is _ _, zero_is _ _, C3.out.bel⟩
      exact bodyPost_ret (v := .tuple #[.agg zeroC, .agg zeroC, .int .i64 12, .agg zeroC]) (results_four Try.results24 _ _ _ _ _ _ _ _ _ _ _ _ rfl rfl rfl rfl C3.out.r1 C3.out.r2 C3.out.r3 Try.underlying27 rfl (by kernel_rfl) (by kernel_rfl) (by kernel_rfl)) rfl hpost
    have b1 : (X.k == 1) = false := by simpa using k1
    replace HR := Lib.hid (HR.out.trans (if_neg k1))
    by_cases k2 : X.k = 2
    · have b2 : (X.k == 2) = true := by simp [k2]
      have HR2 := Lib.hid (HR.out.trans (if_pos k2))
      clear k1 k2
      go_wp2
      refine wp_region_rest (by kernel_rfl) ?_
      have hdw : Below WE.heap.size WE WE.drew := (Below.refl _ _).drew
      replace CX := Lib.hid (CX.out.below hdw)
      replace NR := Lib.hid ((hdw.block _ (Array.getElem?_eq_some_iff.1 NR.out).1).trans NR.out)
      replace RHx := Lib.hid ((hdw.block _ (Array.getElem?_eq_some_iff.1 RHx.out).1).trans RHx.out)
      replace IHx := Lib.hid (IHx.out.below hdw)
      clear hdw
      generalize WE.drew = W0 at *
      have ltNR := (Array.getElem?_eq_some_iff.1 NR.out).1
      have ltRHx := (Array.getElem?_eq_some_iff.1 RHx.out).1
      refine rest_chainM (fun u => Keeps W0 u (ClsM w)) 0 6 [(false, 0), (false, 1), (false, 2), (true, 3), (true, 4), (false, 5)] [(false, _), (false, _), (false, _), (true, _), (true, _), (false, _)] rfl (by kernel_rfl) (by kernel_rfl) (by kernel_rfl) (by kernel_rfl) (.inr (by kernel_rfl)) (Keeps.refl _ _) ?_
      refine chainM_soft (a1 := ?ma40) (by kernel_rfl) ?mh40 ?mr40
      case mh40 =>
        intro u hu E hE
        obtain ⟨n0, n1, n2, n3⟩ := row4 ((hu.block _ ltNR (by unfold ClsM; omega)).trans NR.out)
        go_wp2
        rfl
      refine chainM_soft (a1 := ?ma41) (by kernel_rfl) ?mh41 ?mr41
      case mh41 =>
        intro u hu E hE
        obtain ⟨n0, n1, n2, n3⟩ := row4 ((hu.block _ ltNR (by unfold ClsM; omega)).trans NR.out)
        go_wp2
        rfl
      refine chainM_soft (a1 := ?ma42) (by kernel_rfl) ?mh42 ?mr42
      case mh42 =>
        intro u hu E hE
        obtain ⟨n0, n1, n2, n3⟩ := row4 ((hu.block _ ltRHx (by unfold ClsM; omega)).trans RHx.out)
        go_wp2
        rfl
      refine chainM_one ?_
      intro E hE
      refine wpList_store_row rfl 27 (.tmp 2) (.tmp 42) rfl (w.heap.size + 1) zeroC rfl rfl _ _ CX.out.r1 size_term rfl (one4 _ _ _ _ _ _) ?_
      have k1 : Keeps W0 (W0.setRow (w.heap.size + 1) zeroC) (ClsM w) := (Keeps.refl _ _).set (.inl rfl) _
      refine hE _ _ ⟨k1, ?_⟩
      have C1 := Lib.hid (CX.out.set1 zeroC)
      refine chainM_one ?_
      intro E hE
      refine wpList_store_row rfl 27 (.tmp 3) (.tmp 43) rfl (w.heap.size + 2) zeroC rfl rfl _ _ C1.out.r2 size_term rfl (one4 _ _ _ _ _ _) ?_
      refine hE _ _ ⟨k1.set (.inr (.inl rfl)) _, ?_⟩
      have C2 := Lib.hid (C1.out.set2 zeroC)
      refine chainM_soft (a1 := ?ma43) (by kernel_rfl) ?mh43 ?mr43
      case mh43 =>
        intro u hu E hE
        go_wp2
        rfl
      refine chainM_nil ?_
      refine rest_lineL 6 7 [_] rfl (by kernel_rfl) (by decide) (by decide) (by kernel_rfl) ?_
      refine wpList_store_row rfl 27 (.tmp 5) (.tmp 44) rfl (w.heap.size + 3) #[.int .i64 X.k, .int .i64 X.n, .string X.s, .slice pa X.args.length pc] rfl rfl _ _ C2.out.r3 size_term rfl (one4 _ _ _ _ _ _) ?_
      have C3 := Lib.hid (C2.out.set3 #[.int .i64 X.k, .int .i64 X.n, .string X.s, .slice pa X.args.length pc])
      refine then_rest (rest_end (by decide) ?_)
      go_wp2
      have hpost : ClsPost P (clsT t) w (.returned (.tuple #[.agg zeroC, .agg zeroC, .int .i64 13, .agg #[.int .i64 X.k, .int .i64 X.n, .string X.s, .slice pa X.args.length pc]])) (((W0.setRow (w.heap.size + 1) zeroC).setRow (w.heap.size + 2) zeroC).setRow (w.heap.size + 3) #[.int .i64 X.k, .int .i64 X.n, .string X.s, .slice pa X.args.length pc]) := by
        rw [HR2.out]
        exact ⟨none, 0, none, 0, pa, pc, rfl, zero_is _ _, zero_is _ _, set3_is IHx.out (fun b h => h), C3.out.bel⟩
      exact bodyPost_ret (v := .tuple #[.agg zeroC, .agg zeroC, .int .i64 13, .agg #[.int .i64 X.k, .int .i64 X.n, .string X.s, .slice pa X.args.length pc]]) (results_four Try.results24 _ _ _ _ _ _ _ _ _ _ _ _ rfl rfl rfl rfl C3.out.r1 C3.out.r2 C3.out.r3 Try.underlying27 rfl (by kernel_rfl) (by kernel_rfl) (by kernel_rfl)) rfl hpost
    have b2 : (X.k == 2) = false := by simpa using k2
    replace HR := Lib.hid (HR.out.trans (if_neg k2))
    clear k1 k2
    obtain ⟨g0, g1, g2, g3⟩ := row4 RB.out
    go_wp2_with fail
    refine (ref_Body15 Y _ _ _ hszB IB.out).mono ?_
    generalize bodE Y = RE at *
    obtain ⟨Z, eZ⟩ := RE
    simp only [RbePost]
    simp only at HR
    rintro e6 w6 ⟨za, zc, rfl, hi6, hb6⟩
    have hzw : w.heap.size + 4 ≤ WE.heap.size := CX.out.big
    have hb7 := hb6.trans ((below_new w6 (rowT Z za zc)).mono hb6.size)
    replace CX := Lib.hid (CX.out.below hb7)
    replace NR := Lib.hid ((hb7.block _ (Array.getElem?_eq_some_iff.1 NR.out).1).trans NR.out)
    replace RHx := Lib.hid ((hb7.block _ (Array.getElem?_eq_some_iff.1 RHx.out).1).trans RHx.out)
    replace RB := Lib.hid ((hb7.block _ (Array.getElem?_eq_some_iff.1 RB.out).1).trans RB.out)
    replace IHx := Lib.hid (IHx.out.below hb7)
    replace IB := Lib.hid (IB.out.below hb7)
    have IZ := Lib.hid ((hi6.below (below_new w6 (rowT Z za zc))).imp (P' := fun b => (P b ∧ b < w.heap.size) ∨ w.heap.size + 3 < b) (fun b h => h.elim (fun h => h) fun h => .inr (by omega)) fun _ _ _ => rfl)
    have RZ := Lib.hid (heap_alloc_new w6 (rowT Z za zc))
    have hbz : w.heap.size + 3 < w6.heap.size := by have := hb6.size; omega
    clear hb6 hb7 hi6 h0 h1 h2 h3 g0 g1 g2 g3
    by_cases e13 : eZ = 13
    · subst e13
      have HR2 := Lib.hid (HR.out.trans (if_pos rfl))
      go_wp2
      refine wp_region_rest (by kernel_rfl) ?_
      have hdw : Below (w6.alloc (rowT Z za zc)).heap.size (w6.alloc (rowT Z za zc)) (w6.alloc (rowT Z za zc)).drew := (Below.refl _ _).drew
      replace CX := Lib.hid (CX.out.below hdw)
      replace NR := Lib.hid ((hdw.block _ (Array.getElem?_eq_some_iff.1 NR.out).1).trans NR.out)
      replace RB := Lib.hid ((hdw.block _ (Array.getElem?_eq_some_iff.1 RB.out).1).trans RB.out)
      replace IB := Lib.hid (IB.out.below hdw)
      clear hdw
      generalize (w6.alloc (rowT Z za zc)).drew = W0 at *
      have ltNR := (Array.getElem?_eq_some_iff.1 NR.out).1
      have ltRB := (Array.getElem?_eq_some_iff.1 RB.out).1
      refine rest_chainM (fun u => Keeps W0 u (ClsM w)) 0 7 [(false, 0), (false, 1), (false, 2), (false, 3), (true, 4), (true, 5), (false, 6)] [(false, _), (false, _), (false, _), (false, _), (true, _), (true, _), (false, _)] rfl (by kernel_rfl) (by kernel_rfl) (by kernel_rfl) (by kernel_rfl) (.inr (by kernel_rfl)) (Keeps.refl _ _) ?_
      refine chainM_soft (a1 := ?ma44) (by kernel_rfl) ?mh44 ?mr44
      case mh44 =>
        intro u hu E hE
        obtain ⟨n0, n1, n2, n3⟩ := row4 ((hu.block _ ltNR (by unfold ClsM; omega)).trans NR.out)
        go_wp2
        rfl
      refine chainM_soft (a1 := ?ma45) (by kernel_rfl) ?mh45 ?mr45
      case mh45 =>
        intro u hu E hE
        obtain ⟨n0, n1, n2, n3⟩ := row4 ((hu.block _ ltNR (by unfold ClsM; omega)).trans NR.out)
        go_wp2
        rfl
      refine chainM_soft (a1 := ?ma46) (by kernel_rfl) ?mh46 ?mr46
      case mh46 =>
        intro u hu E hE
        go_wp2
        rfl
      refine chainM_soft (a1 := ?ma47) (by kernel_rfl) ?mh47 ?mr47
      case mh47 =>
        intro u hu E hE
        obtain ⟨n0, n1, n2, n3⟩ := row4 ((hu.block _ ltRB (by unfold ClsM; omega)).trans RB.out)
        go_wp2
        rfl
      refine chainM_one ?_
      intro E hE
      refine wpList_store_row rfl 27 (.tmp 2) (.tmp 52) rfl (w.heap.size + 1) zeroC rfl rfl _ _ CX.out.r1 size_term rfl (one4 _ _ _ _ _ _) ?_
      have k1 : Keeps W0 (W0.setRow (w.heap.size + 1) zeroC) (ClsM w) := (Keeps.refl _ _).set (.inl rfl) _
      refine hE _ _ ⟨k1, ?_⟩
      have C1 := Lib.hid (CX.out.set1 zeroC)
      refine chainM_one ?_
      intro E hE
      refine wpList_store_row rfl 27 (.tmp 3) (.tmp 53) rfl (w.heap.size + 2) zeroC rfl rfl _ _ C1.out.r2 size_term rfl (one4 _ _ _ _ _ _) ?_
      refine hE _ _ ⟨k1.set (.inr (.inl rfl)) _, ?_⟩
      have C2 := Lib.hid (C1.out.set2 zeroC)
      refine chainM_soft (a1 := ?ma48) (by kernel_rfl) ?mh48 ?mr48
      case mh48 =>
        intro u hu E hE
        go_wp2
        rfl
      refine chainM_nil ?_
      refine rest_lineL 7 8 [_] rfl (by kernel_rfl) (by decide) (by decide) (by kernel_rfl) ?_
      refine wpList_store_row rfl 27 (.tmp 5) (.tmp 55) rfl (w.heap.size + 3) #[.int .i64 Y.k, .int .i64 Y.n, .string Y.s, .slice qa Y.args.length qc] rfl rfl _ _ C2.out.r3 size_term rfl (one4 _ _ _ _ _ _) ?_
      have C3 := Lib.hid (C2.out.set3 #[.int .i64 Y.k, .int .i64 Y.n, .string Y.s, .slice qa Y.args.length qc])
      refine then_rest (rest_end (by decide) ?_)
      go_wp2
      have hpost : ClsPost P (clsT t) w (.returned (.tuple #[.agg zeroC, .agg zeroC, .int .i64 13, .agg #[.int .i64 Y.k, .int .i64 Y.n, .string Y.s, .slice qa Y.args.length qc]])) (((W0.setRow (w.heap.size + 1) zeroC).setRow (w.heap.size + 2) zeroC).setRow (w.heap.size + 3) #[.int .i64 Y.k, .int .i64 Y.n, .string Y.s, .slice qa Y.args.length qc]) := by
        rw [HR2.out]
        exact ⟨none, 0, none, 0, qa, qc, rfl, zero_is _ _, zero_is _ _, set3_is IB.out (fun b h => h), C3.out.bel⟩
      exact bodyPost_ret (v := .tuple #[.agg zeroC, .agg zeroC, .int .i64 13, .agg #[.int .i64 Y.k, .int .i64 Y.n, .string Y.s, .slice qa Y.args.length qc]]) (results_four Try.results24 _ _ _ _ _ _ _ _ _ _ _ _ rfl rfl rfl rfl C3.out.r1 C3.out.r2 C3.out.r3 Try.underlying27 rfl (by kernel_rfl) (by kernel_rfl) (by kernel_rfl)) rfl hpost
    have b13 : (eZ == 13) = false := by simpa using e13
    replace HR := Lib.hid (HR.out.trans (if_neg e13))
    clear e13
    by_cases e0 : eZ = 0
    · subst e0
      have HR2 := Lib.hid (HR.out.trans (if_neg (by simp)))
      go_wp2
      refine wp_region_rest (by kernel_rfl) ?_
      have hdw : Below (w6.alloc (rowT Z za zc)).heap.size (w6.alloc (rowT Z za zc)) (w6.alloc (rowT Z za zc)).drew := (Below.refl _ _).drew
      replace CX := Lib.hid (CX.out.below hdw)
      replace NR := Lib.hid ((hdw.block _ (Array.getElem?_eq_some_iff.1 NR.out).1).trans NR.out)
      replace RHx := Lib.hid ((hdw.block _ (Array.getElem?_eq_some_iff.1 RHx.out).1).trans RHx.out)
      replace RZ := Lib.hid ((hdw.block _ (Array.getElem?_eq_some_iff.1 RZ.out).1).trans RZ.out)
      replace IHx := Lib.hid (IHx.out.below hdw)
      replace IZ := Lib.hid (IZ.out.below hdw)
      clear hdw
      generalize (w6.alloc (rowT Z za zc)).drew = W0 at *
      have ltNR := (Array.getElem?_eq_some_iff.1 NR.out).1
      have ltRHx := (Array.getElem?_eq_some_iff.1 RHx.out).1
      have ltRZ := (Array.getElem?_eq_some_iff.1 RZ.out).1
      refine rest_chainM (fun u => Keeps W0 u (ClsM w)) 0 6 [(false, 0), (false, 1), (false, 2), (true, 3), (true, 4), (false, 5)] [(false, _), (false, _), (false, _), (true, _), (true, _), (false, _)] rfl (by kernel_rfl) (by kernel_rfl) (by kernel_rfl) (by kernel_rfl) (.inr (by kernel_rfl)) (Keeps.refl _ _) ?_
      refine chainM_soft (a1 := ?ma49) (by kernel_rfl) ?mh49 ?mr49
      case mh49 =>
        intro u hu E hE
        obtain ⟨n0, n1, n2, n3⟩ := row4 ((hu.block _ ltRHx (by unfold ClsM; omega)).trans RHx.out)
        go_wp2
        rfl
      refine chainM_soft (a1 := ?ma50) (by kernel_rfl) ?mh50 ?mr50
      case mh50 =>
        intro u hu E hE
        obtain ⟨n0, n1, n2, n3⟩ := row4 ((hu.block _ ltRZ (by unfold ClsM; omega)).trans RZ.out)
        go_wp2
        rfl
      refine chainM_soft (a1 := ?ma51) (by kernel_rfl) ?mh51 ?mr51
      case mh51 =>
        intro u hu E hE
        obtain ⟨n0, n1, n2, n3⟩ := row4 ((hu.block _ ltNR (by unfold ClsM; omega)).trans NR.out)
        go_wp2
        rfl
      refine chainM_one ?_
      intro E hE
      refine wpList_store_row rfl 27 (.tmp 2) (.tmp 62) rfl (w.heap.size + 1) #[.int .i64 X.k, .int .i64 X.n, .string X.s, .slice pa X.args.length pc] rfl rfl _ _ CX.out.r1 size_term rfl (one4 _ _ _ _ _ _) ?_
      have k1 : Keeps W0 (W0.setRow (w.heap.size + 1) #[.int .i64 X.k, .int .i64 X.n, .string X.s, .slice pa X.args.length pc]) (ClsM w) := (Keeps.refl _ _).set (.inl rfl) _
      refine hE _ _ ⟨k1, ?_⟩
      have C1 := Lib.hid (CX.out.set1 #[.int .i64 X.k, .int .i64 X.n, .string X.s, .slice pa X.args.length pc])
      refine chainM_one ?_
      intro E hE
      refine wpList_store_row rfl 27 (.tmp 3) (.tmp 63) rfl (w.heap.size + 2) #[.int .i64 Z.k, .int .i64 Z.n, .string Z.s, .slice za Z.args.length zc] rfl rfl _ _ C1.out.r2 size_term rfl (one4 _ _ _ _ _ _) ?_
      refine hE _ _ ⟨k1.set (.inr (.inl rfl)) _, ?_⟩
      have C2 := Lib.hid (C1.out.set2 #[.int .i64 Z.k, .int .i64 Z.n, .string Z.s, .slice za Z.args.length zc])
      refine chainM_soft (a1 := ?ma52) (by kernel_rfl) ?mh52 ?mr52
      case mh52 =>
        intro u hu E hE
        go_wp2
        rfl
      refine chainM_nil ?_
      refine rest_lineL 6 7 [_] rfl (by kernel_rfl) (by decide) (by decide) (by kernel_rfl) ?_
      refine wpList_store_row rfl 27 (.tmp 5) (.tmp 64) rfl (w.heap.size + 3) zeroC rfl rfl _ _ C2.out.r3 size_term rfl (one4 _ _ _ _ _ _) ?_
      have C3 := Lib.hid (C2.out.set3 zeroC)
      refine then_rest (rest_end (by decide) ?_)
      go_wp2
      have hpost : ClsPost P (clsT t) w (.returned (.tuple #[.agg #[.int .i64 X.k, .int .i64 X.n, .string X.s, .slice pa X.args.length pc], .agg #[.int .i64 Z.k, .int .i64 Z.n, .string Z.s, .slice za Z.args.length zc], .int .i64 0, .agg zeroC])) (((W0.setRow (w.heap.size + 1) #[.int .i64 X.k, .int .i64 X.n, .string X.s, .slice pa X.args.length pc]).setRow (w.heap.size + 2) #[.int .i64 Z.k, .int .i64 Z.n, .string Z.s, .slice za Z.args.length zc]).setRow (w.heap.size + 3) zeroC) := by
        rw [HR2.out]
        exact ⟨pa, pc, za, zc, none, 0, rfl, set3_is IHx.out (fun b h => h), set3_is IZ.out (fun b h => h), zero_is _ _, C3.out.bel⟩
      exact bodyPost_ret (v := .tuple #[.agg #[.int .i64 X.k, .int .i64 X.n, .string X.s, .slice pa X.args.length pc], .agg #[.int .i64 Z.k, .int .i64 Z.n, .string Z.s, .slice za Z.args.length zc], .int .i64 0, .agg zeroC]) (results_four Try.results24 _ _ _ _ _ _ _ _ _ _ _ _ rfl rfl rfl rfl C3.out.r1 C3.out.r2 C3.out.r3 Try.underlying27 rfl (by kernel_rfl) (by kernel_rfl) (by kernel_rfl)) rfl hpost
    have b0 : (eZ != 0) = true := by simpa using e0
    have HR2 := Lib.hid (HR.out.trans (if_pos e0))
    clear e0
    go_wp2
    refine wp_region_rest (by kernel_rfl) ?_
    have hdw : Below (w6.alloc (rowT Z za zc)).heap.size (w6.alloc (rowT Z za zc)) (w6.alloc (rowT Z za zc)).drew := (Below.refl _ _).drew
    replace CX := Lib.hid (CX.out.below hdw)
    replace NR := Lib.hid ((hdw.block _ (Array.getElem?_eq_some_iff.1 NR.out).1).trans NR.out)
    clear hdw
    generalize (w6.alloc (rowT Z za zc)).drew = W0 at *
    have ltNR := (Array.getElem?_eq_some_iff.1 NR.out).1
    refine rest_chainM (fun u => Keeps W0 u (ClsM w)) 0 7 [(false, 0), (false, 1), (false, 2), (false, 3), (true, 4), (true, 5), (false, 6)] [(false, _), (false, _), (false, _), (false, _), (true, _), (true, _), (false, _)] rfl (by kernel_rfl) (by kernel_rfl) (by kernel_rfl) (by kernel_rfl) (.inr (by kernel_rfl)) (Keeps.refl _ _) ?_
    refine chainM_soft (a1 := ?ma53) (by kernel_rfl) ?mh53 ?mr53
    case mh53 =>
      intro u hu E hE
      obtain ⟨n0, n1, n2, n3⟩ := row4 ((hu.block _ ltNR (by unfold ClsM; omega)).trans NR.out)
      go_wp2
      rfl
    refine chainM_soft (a1 := ?ma54) (by kernel_rfl) ?mh54 ?mr54
    case mh54 =>
      intro u hu E hE
      obtain ⟨n0, n1, n2, n3⟩ := row4 ((hu.block _ ltNR (by unfold ClsM; omega)).trans NR.out)
      go_wp2
      rfl
    refine chainM_soft (a1 := ?ma55) (by kernel_rfl) ?mh55 ?mr55
    case mh55 =>
      intro u hu E hE
      go_wp2
      rfl
    refine chainM_soft (a1 := ?ma56) (by kernel_rfl) ?mh56 ?mr56
    case mh56 =>
      intro u hu E hE
      obtain ⟨n0, n1, n2, n3⟩ := row4 ((hu.block _ ltNR (by unfold ClsM; omega)).trans NR.out)
      go_wp2
      rfl
    refine chainM_one ?_
    intro E hE
    refine wpList_store_row rfl 27 (.tmp 2) (.tmp 58) rfl (w.heap.size + 1) zeroC rfl rfl _ _ CX.out.r1 size_term rfl (one4 _ _ _ _ _ _) ?_
    have k1 : Keeps W0 (W0.setRow (w.heap.size + 1) zeroC) (ClsM w) := (Keeps.refl _ _).set (.inl rfl) _
    refine hE _ _ ⟨k1, ?_⟩
    have C1 := Lib.hid (CX.out.set1 zeroC)
    refine chainM_one ?_
    intro E hE
    refine wpList_store_row rfl 27 (.tmp 3) (.tmp 59) rfl (w.heap.size + 2) zeroC rfl rfl _ _ C1.out.r2 size_term rfl (one4 _ _ _ _ _ _) ?_
    refine hE _ _ ⟨k1.set (.inr (.inl rfl)) _, ?_⟩
    have C2 := Lib.hid (C1.out.set2 zeroC)
    refine chainM_soft (a1 := ?ma57) (by kernel_rfl) ?mh57 ?mr57
    case mh57 =>
      intro u hu E hE
      go_wp2
      rfl
    refine chainM_nil ?_
    refine rest_lineL 7 8 [_] rfl (by kernel_rfl) (by decide) (by decide) (by kernel_rfl) ?_
    refine wpList_store_row rfl 27 (.tmp 5) (.tmp 61) rfl (w.heap.size + 3) zeroC rfl rfl _ _ C2.out.r3 size_term rfl (one4 _ _ _ _ _ _) ?_
    have C3 := Lib.hid (C2.out.set3 zeroC)
    refine then_rest (rest_end (by decide) ?_)
    go_wp2
    have hpost : ClsPost P (clsT t) w (.returned (.tuple #[.agg zeroC, .agg zeroC, .int .i64 eZ, .agg zeroC])) (((W0.setRow (w.heap.size + 1) zeroC).setRow (w.heap.size + 2) zeroC).setRow (w.heap.size + 3) zeroC) := by
      rw [HR2.out]
      exact ⟨none, 0, none, 0, none, 0, rfl, zero_is _ _, zero_is _ _, zero_is _ _, C3.out.bel⟩
    exact bodyPost_ret (v := .tuple #[.agg zeroC, .agg zeroC, .int .i64 eZ, .agg zeroC]) (results_four Try.results24 _ _ _ _ _ _ _ _ _ _ _ _ rfl rfl rfl rfl C3.out.r1 C3.out.r2 C3.out.r3 Try.underlying27 rfl (by kernel_rfl) (by kernel_rfl) (by kernel_rfl)) rfl hpost
end Go.Proofs.Ytmlceamcpelklaa.Tms
