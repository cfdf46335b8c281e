
/-
  Layer 15's reference: Flat, walked over the program.
-/
import Derived.Test.YtmlceamcpelklaaRbe
import Derived.Test.YtmlceamcpelklaaGfl
namespace Go.Proofs.Ytmlceamcpelklaa.Tms
open Go Go.RowKit Go.Proofs.Ytmlceamcpelklaa.Reg Go.Proofs.Ytmlceamcpelklaa.Rws
set_option linter.unusedVariables false

theorem Own.base {α : Type} {K : Rws.Kind α} {w : World} {base base' : Nat} {P : Nat → Prop} {v : Value} {l : List α} (h : Own K w base P v l) (hb : base' ≤ base) : Own K w base' P v l := by
  obtain ⟨xss, ⟨h1, h2⟩, h3⟩ := h
  refine ⟨xss, ⟨h1, ?_⟩, h3⟩
  rcases h2 with h2 | ⟨g, cap, cur, e, h4, rest⟩
  · exact .inl h2
  · exact .inr ⟨g, cap, cur, e, by omega, rest⟩

set_option maxRecDepth 100000 in
set_option maxHeartbeats 8000000 in
theorem ref_Flat15 (N : Nat) : ∀ (t : Tm) (v : Value) (P : Nat → Prop) (w : World), t.size ≤ N → t.size ≤ 1000000 → mayT t = true → IsTm w P v t → Calls Try.prog 28 #[v] w (FlatPost P (flatG t) w) := by
  induction N with
  | zero => intro t v P w hN; have := size_pos t; omega
  | succ N ih =>
    intro t v P w hN hM hmy h1
    have IH := Lib.hid ih
    have hl := h1.lt
    obtain ⟨a, cap, rfl⟩ := h1.form
    have hb0 := below_new w (rowT t a cap)
    have hz0 : (w.alloc (rowT t a cap)).heap.size = w.heap.size + 1 := by simp
    have HL := Lib.hid hl
    have HV := Lib.hid (Var.new hl)
    have HB := Lib.hid hb0
    have HZ := Lib.hid hz0
    have HK : Hid (kindR t = kindT t) := Lib.hid (kindR_eq hmy)
    have HE := Lib.hid (flatG_eq t)
    have HMY := Lib.hid hmy
    clear ih h1 hl hb0 hz0 hmy
    obtain ⟨x0, x1, x2, x3⟩ := row4 HV.out.row
    by_cases k2 : kindT t = 2
    case neg =>
      have b2 : (kindT t == 2) = false := by simpa using k2
      have HR := Lib.hid (HE.out.trans (if_neg k2))
      clear k2 HE IH
      go_enter Try.func28, Try.ntmps28
      go_wp2_with fail
      refine (ref_kind t _ _ _ (by omega) HV.out.is).mono ?_
      rintro e2 w2 ⟨rfl, hb2⟩
      rw [HK.out]
      replace HV := Lib.hid (HV.out.below hb2)
      have HB2 := Lib.hid (HB.out.trans (hb2.mono HB.out.size))
      have hz2 : w.heap.size + 1 ≤ w2.heap.size := by have := HZ.out; have := hb2.size; omega
      have HL2 := Lib.hid (HL.out.below HB2.out)
      clear hb2 x0 x1 x2 x3
      obtain ⟨x0, x1, x2, x3⟩ := row4 HV.out.row
      go_wp2
      have hb3 := below_new w2 (rowT t a cap)
      have hpost : FlatPost P (flatG t) w (.returned (.slice (some ⟨w2.heap.size, 0, none⟩) 1 1)) (w2.alloc (rowT t a cap)) := by
        rw [HR.out]
        refine ⟨_, rfl, ⟨[[.int .i64 t.k, .int .i64 t.n, .string t.s, .slice a t.args.length cap]], World.ownsRow_lit w2 _ 1 hz2 (by decide) rfl, ?_, trivial⟩, HB2.out.trans (hb3.mono HB2.out.size)⟩
        exact tmKind.mono (fun b h => ⟨.inl h.1, fun e => by have h2 : w2.heap.size = b := Option.some.inj (show some w2.heap.size = some b from e); have := h.2; omega, by have := h.2; simp; omega⟩) (fun _ _ _ => rfl) (HL2.out.below hb3).cells
      exact bodyPost_ret (v := .slice (some ⟨w2.heap.size, 0, none⟩) 1 1) (by simp [results, Try.results28, go_sem]) rfl hpost
    have b2 : (kindT t == 2) = true := by simp [k2]
    have hpx : isPair t = true := by simp [isPair, k2]
    obtain ⟨-, hag⟩ := pair_args hpx
    have hps := pair_size hpx
    have HR := Lib.hid (HE.out.trans (if_pos k2))
    have hm1 : mayT (lftT t) = true := may_arg HMY.out (by rw [hag]; simp)
    have hm2 : mayT (rgtT t) = true := may_arg HMY.out (by rw [hag]; simp)
    have HCX := Lib.hid (fun v P w h => IH.out (lftT t) v P w (by omega) (by omega) hm1 h)
    have HCY := Lib.hid (fun v P w h => IH.out (rgtT t) v P w (by omega) (by omega) hm2 h)
    have lx := flatG_len _ (lftT t) (Nat.le_refl _)
    have ly := flatG_len _ (rgtT t) (Nat.le_refl _)
    have ny := flatG_pos _ (rgtT t) (Nat.le_refl _)
    have HLI : Hid (t.args.length = 2) := Lib.hid (by rw [hag]; rfl)
    have hin0 : (0 : Int) < (t.args.length : Int) := by have := HLI.out; omega
    have hin1 : (1 : Int) < (t.args.length : Int) := by have := HLI.out; omega
    have hg0 : ∀ h : 0 < t.args.length, t.args[0] = lftT t := fun h => by simp only [hag]; rfl
    have hg1 : ∀ h : 1 < t.args.length, t.args[1] = rgtT t := fun h => by simp only [hag]; rfl
    clear hag hpx k2 HE IH hm1 hm2
    generalize lftT t = X at *
    generalize rgtT t = Y at *
    have HG := Lib.hid (And.intro hg0 hg1)
    clear hg0 hg1
    go_enter Try.func28, Try.ntmps28
    go_wp2_with fail
    refine (ref_kind t _ _ _ (by omega) HV.out.is).mono ?_
    rintro e2 w2 ⟨rfl, hb2⟩
    rw [HK.out]
    replace HV := Lib.hid (HV.out.below hb2)
    have HB2 := Lib.hid (HB.out.trans (hb2.mono HB.out.size))
    have hz2 : w.heap.size + 1 ≤ w2.heap.size := by have := HZ.out; have := hb2.size; omega
    clear hb2 x0 x1 x2 x3
    go_wp2
    refine wp_region_rest (by kernel_rfl) ?_
    have hdw : Below w2.heap.size w2 w2.drew := (Below.refl _ _).drew
    replace HV := Lib.hid (HV.out.below hdw)
    replace HB2 := Lib.hid (HB2.out.trans (hdw.mono HB2.out.size))
    replace hz2 : w.heap.size + 1 ≤ w2.drew.heap.size := hz2
    clear hdw
    generalize w2.drew = W0 at *
    have HL0 := Lib.hid (HL.out.below HB2.out)
    obtain ⟨xb, xo, rfl, hPb, m0⟩ := HL0.out.args.at 0 (by have := HLI.out; omega)
    obtain ⟨xb', xo', e', -, m1⟩ := HL0.out.args.at 1 (by have := HLI.out; omega)
    simp only [Option.some.injEq, Addr.mk.injEq, and_true] at e'
    obtain ⟨rfl, rfl⟩ := e'
    rw [HG.out.1] at m0
    rw [HG.out.2] at m1
    obtain ⟨pa, pc, p0, p1, p2, p3, pi, -⟩ := m0.read
    obtain ⟨qa, qc, q0, q1, q2, q3, qi, -⟩ := m1.read
    simp only [Nat.zero_mul, Nat.one_mul, Nat.add_zero] at p0 p1 p2 p3 q0 q1 q2 q3
    have PI := Lib.hid pi
    have QI := Lib.hid qi
    obtain ⟨-, -, -, x3⟩ := row4 HV.out.row
    clear pi qi m0 m1 HG HL HL0 HV
    refine rest_chain 0 9 [(false, [0, 1, 2, 3, 5, 6, 7, 8]), (true, [4])] [(false, [_, _, _, _, _, _, _, _]), (true, [_])] rfl (by kernel_rfl) (by kernel_rfl) rfl (by kernel_rfl) (by kernel_rfl) (.inr (by kernel_rfl)) ?_
    refine chain_soft ?_
    intro E hE
    go_wp2
    clear p0 p1 p2 p3 q0 q1 q2 q3 x3
    refine chain_one ?_
    intro E hE
    go_wp2_with (refine (HCX.out _ _ _ PI.out).mono ?_; rintro e3 u2 ⟨va, rfl, hoa, hba⟩; have HOA := Lib.hid hoa; have HBA := Lib.hid hba; clear hoa hba)
    refine ⟨HBA.out, ?_⟩
    refine chain_nil ?_
    refine rest_lineL 9 12 [_, _, _] rfl (by kernel_rfl) (by decide) (by decide) (by kernel_rfl) ?_
    go_wp2_with fail
    refine (HCY.out _ _ _ (QI.out.below HBA.out)).mono ?_
    rintro e4 u4 ⟨vb, rfl, hob, hbb⟩
    have hlow := HOA.out.low
    have HA := Lib.hid ((Own.base (Own.mono HOA.out (P' := fun b => P b ∨ w.heap.size ≤ b) fun b h _ => h.imp (fun h => h.1) fun h => by omega) (show w.heap.size + 1 ≤ W0.heap.size + 1 by omega)).below hbb)
    have hzz : W0.heap.size ≤ u2.heap.size ∧ u2.heap.size ≤ u4.heap.size := ⟨HBA.out.size, hbb.size⟩
    obtain ⟨yss, ⟨r1, r2⟩, r3⟩ := hob
    rcases r2 with ⟨-, hn⟩ | ⟨gb, cb, cur, rfl, hgb, hgc⟩
    · omega
    have hcell := World.ownsRow.cells (g := gb) (⟨r1, .inr ⟨gb, cb, cur, rfl, hgb, hgc⟩⟩ : u4.ownsRow (u2.heap.size + 1) tmKind.T tmKind.sz (.slice (some ⟨gb, 0, none⟩) (flatG Y).length cb) (flatG Y).length yss.flatten) rfl
    have hy : Each tmKind u4 (fun b => (P b ∨ w.heap.size ≤ b) ∧ va.ownBlock ≠ some b) yss (flatG Y) := r3.mono (fun b h => ⟨h.1.imp (fun h => h.1) fun h => by omega, fun e => by have := hlow b e; rcases h.1 with h | h; · have := h.2; omega
                                                                                                                                                                                   · omega⟩) fun _ _ _ => rfl
    have HCELL := Lib.hid hcell
    have HY := Lib.hid hy
    have HBF := Lib.hid (HB2.out.trans ((HBA.out.trans (hbb.mono hzz.1)).mono HB2.out.size))
    clear hcell hy r1 r3 hgc PI QI HOA hbb hlow
    go_wp2_with (
      (with_reducible show wpList _ _ _ (⟨some 16, _, _, _, _, _⟩ :: _) _ _
       refine wpList_putN (K := tmKind) rfl (.tmp 10) (.tmp 15) _ rfl Try.underlying25 info_tm rfl (w.heap.size + 1) _ _ (flatG X) yss (flatG Y) ⟨gb, 0, none⟩ cb rfl HA.out rfl (fun j v hv => HCELL.out j v hv) ny HY.out (by unfold maxLen; omega) (by omega) (by omega) ?_
       intro v9 w9 hown hb9 hgr hv9
       have HOWN := Lib.hid hown
       have HF9 := Lib.hid (HBF.out.trans (hb9.mono (show w.heap.size ≤ w.heap.size + 1 by omega)))
       clear hown hb9 hgr hv9))
    refine then_rest (rest_end (by decide) ?_)
    go_wp2
    have hpost : FlatPost P (flatG t) w (.returned v9) w9 := by
      rw [HR.out]
      exact ⟨_, rfl, HOWN.out, HF9.out⟩
    exact bodyPost_ret (v := v9) (by simp [results, Try.results28, go_sem]) rfl hpost
end Go.Proofs.Ytmlceamcpelklaa.Tms
