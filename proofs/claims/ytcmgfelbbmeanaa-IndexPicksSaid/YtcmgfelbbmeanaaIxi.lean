
/-
  Layer 20: the law's ints, walked.
-/
import Derived.Test.YtcmgfelbbmeanaaIxc
namespace Go.Proofs.Ytcmgfelbbmeanaa.Tms
open Go Go.RowKit Go.Proofs.Ytcmgfelbbmeanaa.Reg Go.Proofs.Ytcmgfelbbmeanaa.Rws Go.Proofs.Ytcmgfelbbmeanaa.Maps Go.Proofs.Ytcmgfelbbmeanaa.Cod Go.Instr
set_option linter.unusedVariables false
set_option linter.unusedSimpArgs false

def ItRel (A B : List Int) (w : World) (vi : Value) (wr : World) : Prop := ∃ i : Nat, i ≤ A.length ∧ vi = .int .i64 i ∧ (∀ j (h1 : j < A.length) (h2 : j < B.length), j < i → A[j] = B[j]) ∧ Below w.heap.size w wr
set_option maxRecDepth 100000 in
set_option maxHeartbeats 4000000 in
theorem go_ints (A B : List Int) (v1 v2 : Value) (P1 P2 : Nat → Prop) (w : World) (h1 : IntSl w P1 v1 A) (h2 : IntSl w P2 v2 B) (hA : A.length ≤ 1000000) (hB : B.length ≤ 1000000) :
    Calls Try.prog 14 #[v1, v2] w (Says (decide (A = B)) w) := by
  obtain ⟨a1, c1, e1, k1, k2, -⟩ := id h1
  obtain ⟨a2, c2, e2, k3, k4, -⟩ := id h2
  subst e1 e2
  unfold maxLen at k2 k4
  have H1 := Lib.hid h1
  have H2 := Lib.hid h2
  clear h1 h2
  by_cases hl : A.length = B.length
  · have b0 : ((A.length : Int) != (B.length : Int)) = false := by simp [hl]
    have HL := Lib.hid hl
    have hst : ItRel A B w (.int .i64 ((0 : Nat) : Int)) w := ⟨0, by omega, rfl, fun j _ _ h => by omega, Below.refl _ _⟩
    have HST := Lib.hid hst
    obtain ⟨res, hres⟩ : ∃ res, decide (A = B) = res := ⟨_, rfl⟩
    rw [hres]
    have HR := Lib.hid hres
    obtain ⟨nB, hnB⟩ : ∃ nB, nB = B.length := ⟨_, rfl⟩
    rw [← hnB] at b0 ⊢
    clear hst hres hl
    go_enter Try.func14, Try.ntmps14
    go_wp2
    go_loopw [13] (fun v13 wr => ItRel A B w v13 wr) (fun v13 _ => A.length - (intOf v13).toNat)
    case atStart => exact HST.out
    case round =>
      clear HST
      obtain ⟨i, hi, rfl, hq, hbel⟩ := hrel
      have HQ := Lib.hid hq
      clear hq
      by_cases hil : i < A.length
      · have b1 : decide ((i : Int) < (A.length : Int)) = true := by simp; omega
        have hiB : i < B.length := by have := HL.out; omega
        have hin : i < nB := by omega
        go_upto_region 6 with fail
        refine wp_region_rest (by kernel_rfl) ?_
        have hdb := hbel.trans ((Below.refl wr.heap.size wr).drew.mono hbel.size)
        have HB := Lib.hid hdb
        clear hbel hdb
        generalize wr.drew = W0 at *
        obtain ⟨b1', o1, rfl, x1, -, -⟩ := (H1.out.below HB.out).head i hil
        obtain ⟨b2', o2, rfl, x2, -, -⟩ := (H2.out.below HB.out).head i hiB
        obtain ⟨y1, hy1⟩ : ∃ y, y = A[i] := ⟨_, rfl⟩
        obtain ⟨y2, hy2⟩ : ∃ y, y = B[i] := ⟨_, rfl⟩
        rw [← hy1] at x1
        rw [← hy2] at x2
        have HY1 := Lib.hid hy1
        have HY2 := Lib.hid hy2
        clear hy1 hy2
        refine rest_chainP (fun u => u = W0) 0 8 (.soft 0 (.soft 1 (.soft 2 (.soft 3 (.soft 4 (.soft 5 (.soft 6 (.soft 7 .nil)))))))) (.soft _ (.soft _ (.soft _ (.soft _ (.soft _ (.soft _ (.soft _ (.soft _ .nil)))))))) ⟨rfl, ⟨rfl, ⟨rfl, ⟨rfl, ⟨rfl, ⟨rfl, ⟨rfl, ⟨rfl, trivial⟩⟩⟩⟩⟩⟩⟩⟩ (by kernel_rfl) (by kernel_rfl) (by kernel_rfl) (by kernel_rfl) (.inr (by kernel_rfl)) rfl ?_
        refine chainP_soft (a1 := ?ma1) (by kernel_rfl) (by kernel_rfl) ?mh1 ?mr1
        case mh1 =>
          intro u hu E hE
          subst hu
          go_wp2
          rfl
        refine chainP_soft (a1 := ?ma2) (by kernel_rfl) (by kernel_rfl) ?mh2 ?mr2
        case mh2 =>
          intro u hu E hE
          subst hu
          go_wp2
          rfl
        refine chainP_soft (a1 := ?ma3) (by kernel_rfl) (by kernel_rfl) ?mh3 ?mr3
        case mh3 =>
          intro u hu E hE
          subst hu
          go_wp2
          rfl
        refine chainP_soft (a1 := ?ma4) (by kernel_rfl) (by kernel_rfl) ?mh4 ?mr4
        case mh4 =>
          intro u hu E hE
          subst hu
          go_wp2
          rfl
        refine chainP_soft (a1 := ?ma5) (by kernel_rfl) (by kernel_rfl) ?mh5 ?mr5
        case mh5 =>
          intro u hu E hE
          subst hu
          go_wp2
          rfl
        refine chainP_soft (a1 := ?ma6) (by kernel_rfl) (by kernel_rfl) ?mh6 ?mr6
        case mh6 =>
          intro u hu E hE
          subst hu
          go_wp2
          rfl
        refine chainP_soft (a1 := ?ma7) (by kernel_rfl) (by kernel_rfl) ?mh7 ?mr7
        case mh7 =>
          intro u hu E hE
          subst hu
          go_wp2
          rfl
        refine chainP_soft (a1 := ?ma8) (by kernel_rfl) (by kernel_rfl) ?mh8 ?mr8
        case mh8 =>
          intro u hu E hE
          subst hu
          go_wp2
          rfl
        refine chainP_nil ?_
        refine rest_lineL 8 9 [_] rfl (by kernel_rfl) (by decide) (by decide) (by kernel_rfl) ?_
        by_cases hy : y1 = y2
        · have b2 : (y1 != y2) = false := by simpa using hy
          have HRL := Lib.hid (show ItRel A B w (.int .i64 ((i + 1 : Nat) : Int)) W0 from ⟨i + 1, by omega, rfl, fun j g1 g2 hj => by
            by_cases e : j = i
            · subst e; rw [← HY1.out, ← HY2.out]; exact hy
            · exact HQ.out j g1 g2 (by omega), HB.out⟩)
          clear hy HQ HY1 HY2 x1 x2 HB
          go_wp2
          refine then_rest (rest_end (by decide) ?_)
          go_wp2
          go_roundw
          case measure => simp [intOf]; omega
          case rel => exact HRL.out
        · have b2 : (y1 != y2) = true := by simpa using hy
          have hr : res = false := by
            rw [← HR.out]
            refine decide_eq_false fun e => hy ?_
            rw [HY1.out, HY2.out]
            congr 1
          subst hr
          clear hy HQ HY1 HY2 x1 x2
          go_wp2
          refine then_rest (rest_end (by decide) ?_)
          go_wp2
          go_ret
          exact ⟨rfl, HB.out⟩
      · have b1 : decide ((i : Int) < (A.length : Int)) = false := by simp; omega
        have hr : res = true := by
          rw [← HR.out]
          exact decide_eq_true (List.ext_getElem HL.out fun j g1 g2 => HQ.out j g1 g2 (by omega))
        subst hr
        clear HQ
        go_wp2
        go_ret
        exact ⟨rfl, hbel⟩
  · have b0 : ((A.length : Int) != (B.length : Int)) = true := by simp; omega
    have hr : decide (A = B) = false := decide_eq_false fun e => hl (by rw [e])
    rw [hr]
    clear hl hr
    go_enter Try.func14, Try.ntmps14
    go_wp2
    go_ret
    exact ⟨rfl, Below.refl _ _⟩
end Go.Proofs.Ytcmgfelbbmeanaa.Tms
