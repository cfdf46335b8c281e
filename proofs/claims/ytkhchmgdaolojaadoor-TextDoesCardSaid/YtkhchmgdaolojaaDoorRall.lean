
/-
  The reference's All, walked over the program.
-/
import Derived.Test.YtkhchmgdaolojaaDoorSame
import Derived.Test.YtkhchmgdaolojaaDoorChn
namespace Go.Proofs.YtkhchmgdaolojaaDoor.Tms
open Go Go.RowKit Go.Proofs.YtkhchmgdaolojaaDoor.Reg
set_option linter.unusedVariables false

theorem sameL_len : ∀ {a b : List Tm}, sameL a b = true → a.length = b.length
  | [], [], _ => rfl
  | t :: ts, u :: us, h => by
    simp only [sameL, Bool.and_eq_true] at h
    simp [sameL_len h.2]
  | [], u :: us, h => by simp [sameL] at h
  | t :: ts, [], h => by simp [sameL] at h

set_option maxHeartbeats 1600000 in
theorem ref_all (ts us : List Tm) (v v' : Value) (P P' : Nat → Prop) (w : World) (hM : sizeL ts ≤ 1000000000) (h1 : IsSl w P v ts) (h2 : IsSl w P' v' us) :
    Calls Tryd.prog 32 #[v, v'] w (Says (sameL ts us) w) := by
  obtain ⟨a, cap, rfl⟩ := h1.form
  obtain ⟨a', cap', rfl⟩ := h2.form
  have S1 := Lib.hid h1
  have S2 := Lib.hid h2
  have HM := Lib.hid hM
  have hlen : ts.length ≤ 1000000000 := by have := len_le ts; omega
  clear h1 h2 hM
  by_cases e4 : ts.length = us.length
  case neg =>
    have b4 : ((ts.length : Int) != (us.length : Int)) = true := by simp; omega
    have hf : sameL ts us = false := by
      cases h : sameL ts us
      · rfl
      · exact absurd (sameL_len h) e4
    have HF := Lib.hid hf
    clear hf e4
    go_enter Tryd.func32, Tryd.ntmps32
    go_wp2
    go_ret
    exact says HF.out.symm (Below.refl _ _)
  have b4 : ((ts.length : Int) != (us.length : Int)) = false := by simp; omega
  have E4 := Lib.hid e4
  clear e4
  go_enter Tryd.func32, Tryd.ntmps32
  go_wp2
  have hst : SmRel ts us w (.int .i64 ((0 : Nat) : Int)) w := ⟨0, by omega, rfl, by simp [sameL], Below.refl _ _⟩
  have H := Lib.hid hst
  clear hst
  go_loopw [13] (fun c wr => SmRel ts us w c wr) (fun c _ => ts.length - (intOf c).toNat)
  case atStart => exact H.out
  case round =>
    obtain ⟨q, hq, rfl, hs, hbl⟩ := hrel
    have HS := Lib.hid hs
    have HBL := Lib.hid hbl
    by_cases hql : q < ts.length
    · have hqu : q < us.length := by have := E4.out; omega
      obtain ⟨g1, o1, rfl, p1, m1⟩ := (S1.out.below hbl).at q hql
      obtain ⟨g2, o2, rfl, p2, m2⟩ := (S2.out.below hbl).at q hqu
      obtain ⟨c1, d1, x10, x11, x12, x13, i1, l1⟩ := m1.read
      obtain ⟨c2, d2, x20, x21, x22, x23, i2, l2⟩ := m2.read
      have hyes := sameL_take ts us q hql hqu HS.out
      have hno2 := sameL_no ts us (q + 1)
      have hsz := size_mem hql
      have I1 := Lib.hid i1
      have I2 := Lib.hid i2
      have HY := Lib.hid hyes
      have HN2 := Lib.hid hno2
      have HZ2 : Hid (ts[q].size ≤ 1000000000) := Lib.hid (by have := HM.out; omega)
      clear m1 m2 i1 i2 hyes hno2 hsz H hs hbl
      generalize ts[q] = x at *
      generalize us[q] = y at *
      obtain ⟨xk, xn, xs, xa⟩ := x
      obtain ⟨yk, yn, ys, ya⟩ := y
      simp only [Tm.k, Tm.n, Tm.s, Tm.args] at x10 x11 x12 x13 x20 x21 x22 x23 I1 I2
      have hin : (q : Int) < (ts.length : Int) := by omega
      have hin2 : (q : Int) < (us.length : Int) := by omega
      have hin0 : (0 : Int) ≤ (q : Int) := by omega
      go_wp2
      refine wp_region_rest (by kernel_rfl) ?_
      have hd : Below wr.heap.size wr wr.drew := (Below.refl _ _).drew
      have at1 : ∀ o, wr.drew.cell? ⟨g1, o, none⟩ = wr.cell? ⟨g1, o, none⟩ := fun o => hd.cell (p := ⟨g1, o, none⟩) l1
      have at2 : ∀ o, wr.drew.cell? ⟨g2, o, none⟩ = wr.cell? ⟨g2, o, none⟩ := fun o => hd.cell (p := ⟨g2, o, none⟩) l2
      replace x10 := (at1 _).trans x10
      replace x11 := (at1 _).trans x11
      replace x12 := (at1 _).trans x12
      replace x13 := (at1 _).trans x13
      replace x20 := (at2 _).trans x20
      replace x21 := (at2 _).trans x21
      replace x22 := (at2 _).trans x22
      replace x23 := (at2 _).trans x23
      replace I1 := Lib.hid (I1.out.below hd)
      replace I2 := Lib.hid (I2.out.below hd)
      replace HBL := Lib.hid HBL.out.drew
      clear hd at1 at2 l1 l2
      generalize wr.drew = W0 at *
      cases hsm : sameT (.mk xk xn xs xa) (.mk yk yn ys ya)
      · have hr := HN2.out (by rw [HY.out, hsm]) E4.out
        have HR := Lib.hid hr
        have HSM := Lib.hid hsm
        clear hr hsm
        refine rest_chain 0 10 [(false, [0, 1, 2, 3, 4, 5, 6, 7]), (true, [8]), (false, [9])] [(false, [_, _, _, _, _, _, _, _]), (true, [_]), (false, [_])] rfl (by kernel_rfl) (by kernel_rfl) rfl (by kernel_rfl) (by kernel_rfl) (.inl rfl) ?_
        refine chain_soft ?_
        intro E hE
        go_wp2
        clear x10 x11 x12 x13 x20 x21 x22 x23
        refine chain_one ?_
        intro E hE
        go_wp2_with (go_at_call 20
                     refine (ref_same _ (.mk xk xn xs xa) (.mk yk yn ys ya) _ _ P P' _ (Nat.le_refl _) HZ2.out I1.out I2.out).mono ?_
                     rintro e w9 ⟨rfl, hb9⟩
                     rw [HSM.out]
                     have HB9 := Lib.hid hb9
                     clear hb9)
        refine ⟨HB9.out, ?_⟩
        refine chain_soft ?_
        intro E hE
        go_wp2
        refine chain_nil (rest_end (by decide) ?_)
        go_wp2
        go_ret
        exact says HR.out.symm (HBL.out.trans (HB9.out.mono HBL.out.size))
      · have hr := HY.out
        rw [hsm] at hr
        have HR := Lib.hid hr
        have HSM := Lib.hid hsm
        clear hr hsm
        refine rest_chain 0 10 [(false, [0, 1, 2, 3, 4, 5, 6, 7]), (true, [8]), (false, [9])] [(false, [_, _, _, _, _, _, _, _]), (true, [_]), (false, [_])] rfl (by kernel_rfl) (by kernel_rfl) rfl (by kernel_rfl) (by kernel_rfl) (.inl rfl) ?_
        refine chain_soft ?_
        intro E hE
        go_wp2
        clear x10 x11 x12 x13 x20 x21 x22 x23
        refine chain_one ?_
        intro E hE
        go_wp2_with (go_at_call 20
                     refine (ref_same _ (.mk xk xn xs xa) (.mk yk yn ys ya) _ _ P P' _ (Nat.le_refl _) HZ2.out I1.out I2.out).mono ?_
                     rintro e w9 ⟨rfl, hb9⟩
                     rw [HSM.out]
                     have HB9 := Lib.hid hb9
                     clear hb9)
        refine ⟨HB9.out, ?_⟩
        refine chain_soft ?_
        intro E hE
        go_wp2
        refine chain_nil (rest_end (by decide) ?_)
        go_wp2
        go_roundw
        case rel => exact ⟨q + 1, by omega, by go_num, HR.out, HBL.out.trans (HB9.out.mono HBL.out.size)⟩
        case measure => simp [intOf]; omega
    · have hql' : ¬ ((q : Int) < (ts.length : Int)) := by omega
      have hd0 : decide ((q : Int) < (ts.length : Int)) = false := by simp; omega
      obtain rfl : q = ts.length := by omega
      have hs2 : sameL ts us = true := by
        have h := HS.out
        rw [List.take_length] at h
        have e := E4.out
        rw [e, List.take_length] at h
        exact h
      have HS2 := Lib.hid hs2
      clear hs2 hs hbl H
      go_wp2
      go_ret
      exact says HS2.out.symm HBL.out
end Go.Proofs.YtkhchmgdaolojaaDoor.Tms
