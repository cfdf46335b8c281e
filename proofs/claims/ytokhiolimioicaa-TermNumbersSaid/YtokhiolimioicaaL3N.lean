
/-
  TermNumbers, walked over the program.
-/
import Derived.Test.YtokhiolimioicaaAl3
import Derived.Test.YtokhiolimioicaaNumP
import Derived.Test.YtokhiolimioicaaChn
namespace Go.Proofs.Ytokhiolimioicaa.Tms
open Go Go.RowKit Go.Proofs.Ytokhiolimioicaa.Reg Go.Proofs.Ytokhiolimioicaa.Rws
set_option linter.unusedVariables false

theorem ints_get {k i : Nat} (h : i < (ints k).length) : (ints k)[i] = (i : Int) := by simp [ints]
set_option maxRecDepth 100000 in
set_option maxHeartbeats 4000000 in
theorem law_numbers (L : List Pt) (v1 : Value) (w : World) (h1 : PtSl w v1 L) : Calls Try.prog 5 #[v1] w (Says true w) := by
  obtain ⟨a1, c1, rfl, hc1, hm1⟩ := h1.form
  have H1 := Lib.hid h1
  clear h1
  by_cases g1 : 60 < L.length
  · have d1 : decide (60 < (L.length : Int)) = true := by simp; omega
    go_enter Try.func5, Try.ntmps5
    go_wp2_with (first
      | (go_at_call 14; refine (l3_alive _).mono ?_; rintro e1 w1 ⟨rfl, hb1⟩; have HB := Lib.hid hb1; clear hb1)
      | (refine (ref_great L _ _ (H1.out.below HB.out)).mono ?_; rintro e2 w2 ⟨rfl, rfl⟩))
    go_ret
    exact ⟨rfl, HB.out⟩
  have d1 : decide (60 < (L.length : Int)) = false := by simp; omega
  have z1 := goodT_size L
  go_enter Try.func5, Try.ntmps5
  go_wp2_with fail
  refine (l3_alive _).mono ?_; rintro e1 w1 ⟨rfl, hb1⟩; have HB := Lib.hid hb1; clear hb1
  go_wp2_with fail
  refine (ref_great L _ _ (H1.out.below HB.out)).mono ?_; rintro e2 w2 ⟨rfl, rfl⟩
  go_wp2_with fail
  refine (ref_good L _ _ (by omega) (H1.out.below HB.out)).mono ?_
  rintro e3 w3 ⟨v3, rfl, hi3, hb3⟩
  obtain ⟨b1, k1, rfl⟩ := hi3.form
  have HX := Lib.hid hi3.any
  have HB3 := Lib.hid (HB.out.trans (hb3.mono HB.out.size))
  clear hi3 hb3 HB H1
  generalize goodT L = X at *
  have hX : X.size ≤ 1000000 := by omega
  clear z1
  have ha4 : Below w3.heap.size w3 (w3.alloc (.cells #[.int .i64 X.k, .int .i64 X.n, .string X.s, .slice b1 X.args.length k1] 27 (0, 0))) := (Below.refl _ _).alloc (Nat.le_refl _) _
  have hr4 := heap_alloc_new w3 (.cells #[.int .i64 X.k, .int .i64 X.n, .string X.s, .slice b1 X.args.length k1] 27 (0, 0))
  have hz4 : (w3.alloc (.cells #[.int .i64 X.k, .int .i64 X.n, .string X.s, .slice b1 X.args.length k1] 27 (0, 0))).heap.size = w3.heap.size + 1 := by simp
  have HA4 := Lib.hid ha4
  have HR4 := Lib.hid hr4
  have HZ4 := Lib.hid hz4
  clear ha4 hr4 hz4
  go_wp2_with fail
  refine (tm_Number X _ _ _ (by omega) (HX.out.below HA4.out)).mono ?_
  rintro e5 w5 ⟨v5, rfl, hi5, hb5⟩
  obtain ⟨b2, k2, rfl⟩ := hi5.form
  have HN := Lib.hid hi5.any
  have HX5 := Lib.hid ((HX.out.below HA4.out).below hb5)
  have HR5 := Lib.hid ((hb5.block w3.heap.size (by have := HZ4.out; omega)).trans HR4.out)
  have HB5 := Lib.hid (HB3.out.trans ((HA4.out.trans (hb5.mono (by have := HZ4.out; omega))).mono HB3.out.size))
  have hs5 : w3.heap.size < w5.heap.size := by have := HZ4.out; have := hb5.size; omega
  clear hi5 hb5 HA4 HR4 HZ4 HX HB3
  have e1 := varsT_num X
  have e2 := numT_num X
  have e3 := numT_size X
  have e4 := numT_deep X
  have e5 := sameT_self (numT X)
  have E1 := Lib.hid e1
  have E2 := Lib.hid e2
  have E3 := Lib.hid e3
  have E4 := Lib.hid e4
  have E5 := Lib.hid e5
  have hN : (numT X).size ≤ 1000000 := by omega
  clear e1 e2 e3 e4 e5
  generalize numT X = N at *
  have ha6 : Below w5.heap.size w5 (w5.alloc (.cells #[.int .i64 N.k, .int .i64 N.n, .string N.s, .slice b2 N.args.length k2] 27 (0, 0))) := (Below.refl _ _).alloc (Nat.le_refl _) _
  have hr6 := heap_alloc_new w5 (.cells #[.int .i64 N.k, .int .i64 N.n, .string N.s, .slice b2 N.args.length k2] 27 (0, 0))
  have hz6 : (w5.alloc (.cells #[.int .i64 N.k, .int .i64 N.n, .string N.s, .slice b2 N.args.length k2] 27 (0, 0))).heap.size = w5.heap.size + 1 := by simp
  have HA6 := Lib.hid ha6
  have HR6 := Lib.hid hr6
  have HZ6 := Lib.hid hz6
  clear ha6 hr6 hz6
  go_wp2_with fail
  refine (tm_Vars N _ _ _ (by omega) (HN.out.below HA6.out)).mono ?_
  rintro e7 w7 ⟨v7, rfl, hi7, hb7⟩
  rw [E1.out] at hi7
  obtain ⟨q7, n7, rfl, -, -, hq7⟩ := hi7
  rw [ints_len]
  have HQ7 : Hid (∀ i, i < (varsT X).length → ∃ b off, q7 = some ⟨b, off, none⟩ ∧ b < w7.heap.size ∧ w7.cell? ⟨b, off + i, none⟩ = some (.int .i64 i)) := Lib.hid fun i hi => by
    obtain ⟨b, off, e, -, hl, hc⟩ := hq7 i (by rw [ints_len]; exact hi)
    exact ⟨b, off, e, hl, by rw [hc, ints_get]⟩
  have HN7 := Lib.hid ((HN.out.below HA6.out).below hb7)
  have HX7 := Lib.hid ((HX5.out.below HA6.out).below hb7)
  have hz6' := HZ6.out
  have HR7 := Lib.hid ((hb7.block w3.heap.size (by omega)).trans ((HA6.out.block _ hs5).trans HR5.out))
  have HS7 := Lib.hid ((hb7.block w5.heap.size (by omega)).trans HR6.out)
  have HB7 := Lib.hid (HB5.out.trans ((HA6.out.trans (hb7.mono (by omega))).mono HB5.out.size))
  have hs7 : w5.heap.size < w7.heap.size := by have := hb7.size; omega
  have hs5' : w3.heap.size < w5.heap.size := hs5
  have hk : (varsT X).length ≤ 1000000 := by
    have h1 := varsD_len (parts 1 X)
    have h2 := parts_len 1 X
    unfold varsT
    omega
  clear hq7 hb7 HA6 HR6 HZ6 hz6' HN HX5 HB5 HR5
  generalize hkv : (varsT X).length = k at *
  have HKV := Lib.hid hkv
  clear hkv
  generalize w3.heap.size = p3 at *
  generalize w5.heap.size = p5 at *
  go_wp2
  have hst : ∃ i : Nat, i ≤ k ∧ (.int .i64 0 : Value) = .int .i64 i ∧ w7 = w7 := ⟨0, by omega, rfl, rfl⟩
  have HST := Lib.hid hst
  clear hst
  go_loopw [18] (fun c wr => ∃ i : Nat, i ≤ k ∧ c = .int .i64 i ∧ wr = w7) (fun c _ => k - (intOf c).toNat)
  case atStart => exact HST.out
  case round =>
    obtain ⟨i, hi, rfl, hw⟩ := hrel
    subst hw
    clear HST
    by_cases hik : i = k
    · subst hik
      clear HQ7
      go_wp2
      refine wp_region_rest (by kernel_rfl) ?_
      have hd : Below wr.heap.size wr wr.drew := (Below.refl _ _).drew
      have HNW := Lib.hid (HN7.out.below hd)
      have HXW := Lib.hid (HX7.out.below hd)
      have HBW := Lib.hid HB7.out.drew
      obtain ⟨x0, x1, x2, x3⟩ := row4 (show wr.drew.heap[p3]? = _ from HR7.out)
      obtain ⟨y0, y1, y2, y3⟩ := row4 (show wr.drew.heap[p5]? = _ from HS7.out)
      have HRW : Hid (wr.drew.heap[p3]? = _) := Lib.hid HR7.out
      have HSW : Hid (wr.drew.heap[p5]? = _) := Lib.hid HS7.out
      have hpw : p3 < wr.drew.heap.size ∧ p5 < wr.drew.heap.size := ⟨Nat.lt_trans hs5' hs7, hs7⟩
      have b9 : ((N.size : Int) == (X.size : Int)) = true := by rw [beq_iff_eq]; have := E3.out; omega
      have b16 : ((msT N).2.2 == (msT X).2.2) = true := by rw [beq_iff_eq]; exact E4.out
      have b25 : ((i : Int) == (i : Int)) = true := by simp
      have hvN : ∀ W P V, IsTm W P V N → Calls Try.prog 27 #[V] W fun e w' => (∃ q c, e = .returned (.slice q i c)) ∧ Below W.heap.size W w' := fun W P V h => (tm_Vars N V P W (by omega) h).mono (by
        rintro e w' ⟨v, rfl, ⟨q, c, rfl, -⟩, hb⟩
        refine ⟨⟨q, c, ?_⟩, hb⟩
        rw [E1.out, ints_len])
      have hvX : ∀ W P V, IsTm W P V X → Calls Try.prog 27 #[V] W fun e w' => (∃ q c, e = .returned (.slice q i c)) ∧ Below W.heap.size W w' := fun W P V h => (tm_Vars X V P W (by omega) h).mono (by
        rintro e w' ⟨v, rfl, ⟨q, c, rfl, -⟩, hb⟩
        refine ⟨⟨q, c, ?_⟩, hb⟩
        rw [HKV.out])
      have HVN := Lib.hid hvN
      have HVX := Lib.hid hvX
      clear hvN hvX hd HN7 HX7 HB7 HR7 HS7
      generalize wr.drew = W0 at *
      refine rest_chain 0 28 [(false, [0, 2]), (true, [1]), (true, [3]), (false, [4, 5, 7]), (true, [6]), (true, [8]), (false, [9, 10, 11, 12, 14]), (true, [13]), (true, [15]), (false, [16, 17, 18, 19, 22]), (true, [20]), (false, [21]), (true, [23]), (false, [24, 25, 26, 27])] [(false, [_, _]), (true, [_]), (true, [_]), (false, [_, _, _]), (true, [_]), (true, [_]), (false, [_, _, _, _, _]), (true, [_]), (true, [_]), (false, [_, _, _, _, _]), (true, [_]), (false, [_]), (true, [_]), (false, [_, _, _, _])] rfl (by kernel_rfl) (by kernel_rfl) rfl (by kernel_rfl) (by kernel_rfl) (.inl rfl) ?_
      refine chain_soft ?_
      intro E hE
      go_wp2
      clear x0 x1 x2 x3 y0 y1 y2 y3
      refine chain_one ?_
      intro E hE
      go_wp2_with (refine (tm_Number N _ _ _ (by omega) HNW.out).mono ?_; rintro e8 w8 ⟨v8, rfl, hi8, hb8⟩; rw [E2.out] at hi8; have HM8 := Lib.hid hi8; have HB8 := Lib.hid hb8; have HC8 := Lib.hid hb8; clear hi8 hb8; obtain ⟨a8, c8, rfl⟩ := HM8.out.form)
      refine ⟨HC8.out, ?_⟩
      refine chain_one ?_
      intro E hE
      go_wp2_with (refine (ref_same _ N N _ _ _ _ _ (Nat.le_refl _) (by omega) HM8.out (HNW.out.below HB8.out)).mono ?_; rintro e9 w9 ⟨rfl, hb9⟩; rw [E5.out]; have HB9 := Lib.hid (HB8.out.trans (hb9.mono HB8.out.size)); have HC9 := Lib.hid hb9; clear hb9)
      refine ⟨HC9.out, ?_⟩
      obtain ⟨x0, x1, x2, x3⟩ := row4 ((HB9.out.block p3 hpw.1).trans HRW.out)
      obtain ⟨y0, y1, y2, y3⟩ := row4 ((HB9.out.block p5 hpw.2).trans HSW.out)
      refine chain_soft ?_
      intro E hE
      go_wp2
      clear x0 x1 x2 x3 y0 y1 y2 y3
      refine chain_one ?_
      intro E hE
      go_wp2_with (refine (tm_Size N _ _ _ (by omega) (HNW.out.below HB9.out)).mono ?_; rintro e10 w10 ⟨rfl, hb10⟩; have HB10 := Lib.hid (HB9.out.trans (hb10.mono HB9.out.size)); have HC10 := Lib.hid hb10; clear hb10)
      refine ⟨HC10.out, ?_⟩
      refine chain_one ?_
      intro E hE
      go_wp2_with (refine (tm_Size X _ _ _ (by omega) (HXW.out.below HB10.out)).mono ?_; rintro e11 w11 ⟨rfl, hb11⟩; have HB11 := Lib.hid (HB10.out.trans (hb11.mono HB10.out.size)); have HC11 := Lib.hid hb11; clear hb11)
      refine ⟨HC11.out, ?_⟩
      obtain ⟨x0, x1, x2, x3⟩ := row4 ((HB11.out.block p3 hpw.1).trans HRW.out)
      obtain ⟨y0, y1, y2, y3⟩ := row4 ((HB11.out.block p5 hpw.2).trans HSW.out)
      refine chain_soft ?_
      intro E hE
      go_wp2
      clear x0 x1 x2 x3 y0 y1 y2 y3
      refine chain_one ?_
      intro E hE
      go_wp2_with (refine (tm_Deep N _ _ _ (by omega) (HNW.out.below HB11.out)).mono ?_; rintro e12 w12 ⟨rfl, hb12⟩; have HB12 := Lib.hid (HB11.out.trans (hb12.mono HB11.out.size)); have HC12 := Lib.hid hb12; clear hb12)
      refine ⟨HC12.out, ?_⟩
      refine chain_one ?_
      intro E hE
      go_wp2_with (refine (tm_Deep X _ _ _ (by omega) (HXW.out.below HB12.out)).mono ?_; rintro e13 w13 ⟨rfl, hb13⟩; have HB13 := Lib.hid (HB12.out.trans (hb13.mono HB12.out.size)); have HC13 := Lib.hid hb13; clear hb13)
      refine ⟨HC13.out, ?_⟩
      obtain ⟨x0, x1, x2, x3⟩ := row4 ((HB13.out.block p3 hpw.1).trans HRW.out)
      obtain ⟨y0, y1, y2, y3⟩ := row4 ((HB13.out.block p5 hpw.2).trans HSW.out)
      refine chain_soft ?_
      intro E hE
      go_wp2
      clear x0 x1 x2 x3 y0 y1 y2 y3
      refine chain_one ?_
      intro E hE
      go_wp2_with (refine (HVN.out _ _ _ (HNW.out.below HB13.out)).mono ?_; rintro e14 w14 ⟨⟨q14, n14, rfl⟩, hb14⟩; have HB14 := Lib.hid (HB13.out.trans (hb14.mono HB13.out.size)); have HC14 := Lib.hid hb14; clear hb14)
      refine ⟨HC14.out, ?_⟩
      refine chain_soft ?_
      intro E hE
      go_wp2
      refine chain_one ?_
      intro E hE
      go_wp2_with (refine (HVX.out _ _ _ (HXW.out.below HB14.out)).mono ?_; rintro e15 w15 ⟨⟨q15, n15, rfl⟩, hb15⟩; have HB15 := Lib.hid (HB14.out.trans (hb15.mono HB14.out.size)); have HC15 := Lib.hid hb15; clear hb15)
      refine ⟨HC15.out, ?_⟩
      refine chain_soft ?_
      intro E hE
      go_wp2
      refine chain_nil (rest_end (by decide) ?_)
      have HF := Lib.hid (HBW.out.trans (HB15.out.mono HBW.out.size))
      go_wp2
      go_ret
      exact ⟨rfl, HF.out⟩
    · have hlt : i < k := by omega
      have hlt' : (i : Int) < (k : Int) := by omega
      obtain ⟨b, off, rfl, -, hc⟩ := HQ7.out i hlt
      have hii : ((i : Int) != (i : Int)) = false := by simp
      go_wp2
      go_roundw
      case rel => exact ⟨i + 1, by omega, by go_num, by first | trivial | rfl⟩
      case measure => simp [intOf]; omega
end Go.Proofs.Ytokhiolimioicaa.Tms
