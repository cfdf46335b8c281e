
/-
  The reference's Compare, walked over the program.
-/
import Derived.Test.YtilmfkpflecghaaRcmp
namespace Go.Proofs.Ytilmfkpflecghaa.Tms
open Go Go.RowKit Go.Proofs.Ytilmfkpflecghaa.Reg
set_option linter.unusedVariables false

def RcRel (B : Int) (ts us : List Tm) (W : World) (vn vi : Value) (wr : World) : Prop := ∃ q : Nat, q ≤ ts.length ∧ vi = .int .i64 q ∧ vn = .int .i64 (lex B (rcL (ts.take q) (us.take q))) ∧ Below W.heap.size W wr
set_option maxRecDepth 100000 in
set_option maxHeartbeats 2000000 in
theorem ref_cmp (N : Nat) : ∀ (t u : Tm) (v v' : Value) (P P' : Nat → Prop) (w : World), t.size ≤ N → t.size ≤ 1000000000 → u.size ≤ 1000000000 → IsTm w P v t → IsTm w P' v' u →
    Calls Try.prog 54 #[v, v'] w fun e w' => e = .returned (.int .i64 (rcT t u)) ∧ Below w.heap.size w w' := by
  induction N with
  | zero => intro t u v v' P P' w hN hM; obtain ⟨k, n, s, a⟩ := t; simp [Tm.size] at hN
  | succ N ih =>
    intro t u v v' P P' w hN hM hU h1 h2
    have IH := Lib.hid ih
    clear ih
    obtain ⟨a, cap, rfl⟩ := h1.form
    obtain ⟨a', cap', rfl⟩ := h2.form
    have s1 := h1.args
    have s2 := h2.args
    obtain ⟨k, n, s, ts⟩ := t
    obtain ⟨k', n', s', us⟩ := u
    simp only [Tm.k, Tm.n, Tm.s, Tm.args] at *
    have S1 := Lib.hid s1
    have S2 := Lib.hid s2
    have hlen : ts.length ≤ 1000000000 := by have := len_le ts; simp only [Tm.size] at hM; omega
    have hlen2 : us.length ≤ 1000000000 := by have := len_le us; simp only [Tm.size] at hU; omega
    have HN : Hid (sizeL ts ≤ N) := Lib.hid (by simp only [Tm.size] at hN; omega)
    have HM : Hid (sizeL ts ≤ 1000000000) := Lib.hid (by simp only [Tm.size] at hM; omega)
    have HU : Hid (sizeL us ≤ 1000000000) := Lib.hid (by simp only [Tm.size] at hU; omega)
    clear h1 h2 s1 s2 hN hM hU
    obtain ⟨t0, t1, tsz, tbl⟩ := two w (.cells #[.int .i64 k, .int .i64 n, .string s, .slice a ts.length cap] 29) (.cells #[.int .i64 k', .int .i64 n', .string s', .slice a' us.length cap'] 29)
    have T0 := Lib.hid t0
    have T1 := Lib.hid t1
    have TS := Lib.hid tsz
    have TB := Lib.hid tbl
    clear t0 t1 tsz tbl
    by_cases e1 : k = k'
    case neg =>
      have b1 : (k != k') = true := by simpa using e1
      by_cases e2 : k < k'
      · have b2 : decide (k < k') = true := by simpa using e2
        have hr : rcT (.mk k n s ts) (.mk k' n' s' us) = -1 := by rw [rcT, if_pos e1]; unfold cmpI; rw [if_pos e2]
        have HR := Lib.hid hr
        clear hr e1 e2
        go_enter Try.func54, Try.ntmps54
        go_wp2
        go_ret
        exact ⟨by rw [HR.out]; rfl, TB.out⟩
      · have b2 : decide (k < k') = false := by simpa using e2
        have hr : rcT (.mk k n s ts) (.mk k' n' s' us) = 1 := by rw [rcT, if_pos e1]; unfold cmpI; rw [if_neg e2, if_pos (by omega)]
        have HR := Lib.hid hr
        clear hr e1 e2
        go_enter Try.func54, Try.ntmps54
        go_wp2
        go_ret
        exact ⟨by rw [HR.out]; rfl, TB.out⟩
    have b1 : (k != k') = false := by simpa using e1
    by_cases e2 : k ≤ 2
    · have b2 : decide (k ≤ 2) = true := by simpa using e2
      by_cases e3 : n < n'
      · have b3 : decide (n < n') = true := by simpa using e3
        have hr : rcT (.mk k n s ts) (.mk k' n' s' us) = -1 := by rw [rcT, if_neg (by simpa using e1), if_pos e2]; unfold cmpI; rw [if_pos e3]
        have HR := Lib.hid hr
        clear hr e1 e2 e3
        go_enter Try.func54, Try.ntmps54
        go_wp2
        go_ret
        exact ⟨by rw [HR.out]; rfl, TB.out⟩
      · have b3 : decide (n < n') = false := by simpa using e3
        by_cases e4 : n' < n
        · have b4 : decide (n' < n) = true := by simpa using e4
          have hr : rcT (.mk k n s ts) (.mk k' n' s' us) = 1 := by rw [rcT, if_neg (by simpa using e1), if_pos e2]; unfold cmpI; rw [if_neg e3, if_pos e4]
          have HR := Lib.hid hr
          clear hr e1 e2 e3 e4
          go_enter Try.func54, Try.ntmps54
          go_wp2
          go_ret
          exact ⟨by rw [HR.out]; rfl, TB.out⟩
        · have b4 : decide (n' < n) = false := by simpa using e4
          have hr : rcT (.mk k n s ts) (.mk k' n' s' us) = 0 := by rw [rcT, if_neg (by simpa using e1), if_pos e2]; unfold cmpI; rw [if_neg e3, if_neg e4]
          have HR := Lib.hid hr
          clear hr e1 e2 e3 e4
          go_enter Try.func54, Try.ntmps54
          go_wp2
          go_ret
          exact ⟨by rw [HR.out]; rfl, TB.out⟩
    have b2 : decide (k ≤ 2) = false := by simpa using e2
    by_cases e3 : ts.length = us.length
    case neg =>
      have b3 : ((ts.length : Int) != (us.length : Int)) = true := by simp; omega
      by_cases e4 : ts.length < us.length
      · have b4 : decide ((ts.length : Int) < (us.length : Int)) = true := by simp; omega
        have hr : rcT (.mk k n s ts) (.mk k' n' s' us) = -1 := by rw [rcT, if_neg (by simpa using e1), if_neg e2, if_pos e3]; unfold cmpI; rw [if_pos (by omega)]
        have HR := Lib.hid hr
        clear hr e1 e2 e3
        go_enter Try.func54, Try.ntmps54
        go_wp2
        go_ret
        exact ⟨by rw [HR.out]; rfl, TB.out⟩
      · have b4 : decide ((ts.length : Int) < (us.length : Int)) = false := by simp; omega
        have hr : rcT (.mk k n s ts) (.mk k' n' s' us) = 1 := by rw [rcT, if_neg (by simpa using e1), if_neg e2, if_pos e3]; unfold cmpI; rw [if_neg (by omega), if_pos (by omega)]
        have HR := Lib.hid hr
        clear hr e1 e2 e3
        go_enter Try.func54, Try.ntmps54
        go_wp2
        go_ret
        exact ⟨by rw [HR.out]; rfl, TB.out⟩
    have b3 : ((ts.length : Int) != (us.length : Int)) = false := by simp; omega
    have hr : rcT (.mk k n s ts) (.mk k' n' s' us) = lex (Lib.compareBytes s.data.toList s'.data.toList) (rcL ts us) := by rw [rcT, if_neg (by simpa using e1), if_neg e2, if_neg (by simpa using e3)]
    have HR := Lib.hid hr
    have E3 := Lib.hid e3
    clear hr e1 e2 e3
    go_enter Try.func54, Try.ntmps54
    go_wp2_with (go_at_call 100; refine (ref_order s s' _).mono ?_; rintro e2 w2 ⟨rfl, rfl⟩; rw [ordB_cmp])
    generalize Lib.compareBytes s.data.toList s'.data.toList = B at *
    generalize ((w.alloc (.cells #[.int .i64 k, .int .i64 n, .string s, .slice a ts.length cap] 29)).alloc (.cells #[.int .i64 k', .int .i64 n', .string s', .slice a' us.length cap'] 29)) = W at *
    have hst : RcRel B ts us W (.int .i64 B) (.int .i64 ((0 : Nat) : Int)) W := ⟨0, by omega, rfl, by simp [rcL, lex], Below.refl _ _⟩
    have HST := Lib.hid hst
    clear hst
    go_loopw [5, 6] (fun vn vi wr => RcRel B ts us W vn vi wr) (fun _ vi _ => ts.length - (intOf vi).toNat)
    case atStart => exact HST.out
    case round =>
      obtain ⟨q, hq, rfl, rfl, hbl⟩ := hrel
      have HBL := Lib.hid hbl
      have f3 := (row4 ((hbl.block _ (by have := TS.out; omega)).trans T0.out)).2.2.2
      have g3 := (row4 ((hbl.block _ (by have := TS.out; omega)).trans T1.out)).2.2.2
      have hbw : Below w.heap.size w wr := TB.out.trans (hbl.mono (by have := TS.out; omega))
      have HBW := Lib.hid hbw
      clear HST hbl hbw
      by_cases hql : q < ts.length
      · by_cases hz : lex B (rcL (ts.take q) (us.take q)) = 0
        · have hz1 : (lex B (rcL (ts.take q) (us.take q)) == 0) = true := by simpa using hz
          have hqu : q < us.length := by have := E3.out; omega
          have hnx : lex B (rcL (ts.take (q + 1)) (us.take (q + 1))) = rcT ts[q] us[q] := by
            rw [rcL_take ts us q hql hqu, ← lex_assoc, hz]; simp [lex]
          obtain ⟨g1, o1, rfl, p1, m1⟩ := (S1.out.below HBW.out).at q hql
          obtain ⟨g2, o2, rfl, p2, m2⟩ := (S2.out.below HBW.out).at q hqu
          obtain ⟨c1, d1, x10, x11, x12, x13, i1, l1⟩ := m1.read
          obtain ⟨c2, d2, x20, x21, x22, x23, i2, l2⟩ := m2.read
          have h1s := size_mem hql
          have h2s := size_mem hqu
          have HX := Lib.hid (show ts[q].size ≤ N by have := HN.out; omega)
          have HX2 := Lib.hid (show ts[q].size ≤ 1000000000 by have := HM.out; omega)
          have HY2 := Lib.hid (show us[q].size ≤ 1000000000 by have := HU.out; omega)
          have I1 := Lib.hid i1
          have I2 := Lib.hid i2
          have HNX := Lib.hid hnx
          clear m1 m2 i1 i2 hnx h1s h2s hz
          generalize ts[q] = x at *
          generalize us[q] = y at *
          have hin : (q : Int) < (ts.length : Int) := by omega
          have hin2 : (q : Int) < (us.length : Int) := by omega
          have hin0 : (0 : Int) ≤ (q : Int) := by omega
          go_wp2
          refine wp_region_rest (by kernel_rfl) ?_
          have hd : Below wr.heap.size wr wr.drew := (Below.refl _ _).drew
          have at1 : ∀ o, wr.drew.cell? ⟨g1, o, none⟩ = wr.cell? ⟨g1, o, none⟩ := fun o => hd.cell (p := ⟨g1, o, none⟩) l1
          have at2 : ∀ o, wr.drew.cell? ⟨g2, o, none⟩ = wr.cell? ⟨g2, o, none⟩ := fun o => hd.cell (p := ⟨g2, o, none⟩) l2
          replace x10 := (at1 _).trans x10
          replace x11 := (at1 _).trans x11
          replace x12 := (at1 _).trans x12
          replace x13 := (at1 _).trans x13
          replace x20 := (at2 _).trans x20
          replace x21 := (at2 _).trans x21
          replace x22 := (at2 _).trans x22
          replace x23 := (at2 _).trans x23
          replace f3 : wr.drew.cell? ⟨w.heap.size, 3, none⟩ = _ := f3
          replace g3 : wr.drew.cell? ⟨w.heap.size + 1, 3, none⟩ = _ := g3
          replace I1 := Lib.hid (I1.out.below hd)
          replace I2 := Lib.hid (I2.out.below hd)
          replace HBL := Lib.hid HBL.out.drew
          clear hd at1 at2 l1 l2 HBW
          generalize wr.drew = W0 at *
          refine rest_chain 0 12 [(false, [0, 1, 2, 3, 4, 5, 6, 7, 8, 9]), (true, [10]), (false, [11])] [(false, [_, _, _, _, _, _, _, _, _, _]), (true, [_]), (false, [_])] rfl (by kernel_rfl) (by kernel_rfl) rfl (by kernel_rfl) (by kernel_rfl) (.inl rfl) ?_
          refine chain_soft ?_
          intro E hE
          go_wp2
          clear x10 x11 x12 x13 x20 x21 x22 x23 f3 g3
          refine chain_one ?_
          intro E hE
          go_wp2_with (go_at_call 54
                       refine (IH.out x y _ _ P P' _ HX.out HX2.out HY2.out I1.out I2.out).mono ?_
                       rintro e w9 ⟨rfl, hb9⟩
                       have HB9 := Lib.hid hb9
                       clear hb9)
          refine ⟨HB9.out, ?_⟩
          refine chain_soft ?_
          intro E hE
          go_wp2
          refine chain_nil (rest_end (by decide) ?_)
          go_wp2
          go_roundw
          case rel => exact ⟨q + 1, by omega, by go_num, by rw [HNX.out], HBL.out.trans (HB9.out.mono HBL.out.size)⟩
          case measure => simp [intOf]; omega
        · have hz1 : (lex B (rcL (ts.take q) (us.take q)) == 0) = false := by simpa using hz
          have hfull : lex B (rcL ts us) = lex B (rcL (ts.take q) (us.take q)) := by
            by_cases hB : B = 0
            · have h1 : rcL (ts.take q) (us.take q) ≠ 0 := fun e => hz (by rw [hB, e]; simp [lex])
              rw [rcL_stop ts us q h1]
            · simp [lex, hB]
          have HFL := Lib.hid hfull
          have hin : (q : Int) < (ts.length : Int) := by omega
          generalize lex B (rcL (ts.take q) (us.take q)) = c at *
          clear hfull hz
          go_wp2
          go_ret
          exact ⟨by rw [HR.out, HFL.out]; rfl, HBW.out⟩
      · have hin : decide ((q : Int) < (ts.length : Int)) = false := by simp; omega
        obtain rfl : q = ts.length := by omega
        have hfull : lex B (rcL ts us) = lex B (rcL (ts.take ts.length) (us.take ts.length)) := by rw [List.take_length, E3.out, List.take_length]
        have HFL := Lib.hid hfull
        generalize lex B (rcL (ts.take ts.length) (us.take ts.length)) = c at *
        clear hfull
        go_wp2
        go_ret
        exact ⟨by rw [HR.out, HFL.out]; rfl, HBW.out⟩
end Go.Proofs.Ytilmfkpflecghaa.Tms
