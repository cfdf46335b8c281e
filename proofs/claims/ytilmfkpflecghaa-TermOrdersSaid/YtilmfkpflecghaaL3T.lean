
/-
  TermOrders, walked over the program.
-/
import Derived.Test.YtilmfkpflecghaaAl3
import Derived.Test.YtilmfkpflecghaaOrd
import Derived.Test.YtilmfkpflecghaaRrn
import Derived.Test.YtilmfkpflecghaaRcmpW
import Derived.Test.YtilmfkpflecghaaRitm
import Derived.Test.YtilmfkpflecghaaRall
import Derived.Test.YtilmfkpflecghaaNumP
namespace Go.Proofs.Ytilmfkpflecghaa.Tms
open Go Go.RowKit Go.Proofs.Ytilmfkpflecghaa.Reg Go.Proofs.Ytilmfkpflecghaa.Rws
set_option linter.unusedVariables false

theorem sameL_me : ∀ l : List Tm, sameL l l = true
  | [] => by simp [sameL]
  | t :: l => by simp [sameL, sameT_self t, sameL_me l]
/-- the rows that the law writes, and all that stays -/
def LoRel (wN : World) (bn : Nat) (row : Obj) (a : Option Addr) (len : Nat) (vi : Value) (wr : World) : Prop :=
  ∃ k : Nat, k ≤ len ∧ vi = .int .i64 k ∧ Below wN.heap.size wN wr ∧ wr.heap[bn]? = some row ∧
    ∀ i, i < len → ∃ g off cur, a = some ⟨g, off, none⟩ ∧ wN.heap.size ≤ g ∧ g < bn ∧ wr.heap[g]? = some (.cells cur 29 (0, 0)) ∧ off + i * 4 + 2 < cur.size
def LpRel (len : Nat) (w : World) (vi : Value) (wr : World) : Prop := ∃ k : Nat, k ≤ len ∧ vi = Value.int .i64 k ∧ Below (World.heap w).size w wr
set_option maxRecDepth 100000 in
set_option maxHeartbeats 4000000 in
theorem law_orders (L M : List Pt) (v1 v2 : Value) (w : World) (h1 : PtSl w v1 L) (h2 : PtSl w v2 M) : Calls Try.prog 13 #[v1, v2] w (Says true w) := by
  obtain ⟨a1, c1, rfl, hc1, hm1⟩ := h1.form
  obtain ⟨a2, c2, rfl, hc2, hm2⟩ := h2.form
  have H1 := Lib.hid h1
  have H2 := Lib.hid h2
  clear h1 h2
  by_cases g1 : 60 < L.length
  · have d1 : decide (60 < (L.length : Int)) = true := by simp; omega
    go_enter Try.func13, Try.ntmps13
    go_wp2_with (first
      | (go_at_call 51; refine (l3_alive _).mono ?_; rintro e1 w1 ⟨rfl, hb1⟩; have HB := Lib.hid hb1; clear hb1)
      | (refine (ref_great L _ _ (H1.out.below HB.out)).mono ?_; rintro e2 w2 ⟨rfl, rfl⟩))
    go_ret
    exact ⟨rfl, HB.out⟩
  have d1 : decide (60 < (L.length : Int)) = false := by simp; omega
  by_cases g2 : 60 < M.length
  · have d2 : decide (60 < (M.length : Int)) = true := by simp; omega
    go_enter Try.func13, Try.ntmps13
    go_wp2_with fail
    refine (l3_alive _).mono ?_; rintro e1 w1 ⟨rfl, hb1⟩; have HB := Lib.hid hb1; clear hb1
    go_wp2_with fail
    refine (ref_great L _ _ (H1.out.below HB.out)).mono ?_; rintro e2 w2 ⟨rfl, rfl⟩
    go_wp2_with fail
    refine (ref_great M _ _ (H2.out.below HB.out)).mono ?_; rintro e2 w2 ⟨rfl, rfl⟩
    go_wp2
    go_ret
    exact ⟨rfl, HB.out⟩
  have d2 : decide (60 < (M.length : Int)) = false := by simp; omega
  have z1 := goodT_size L
  have z2 := goodT_size M
  go_enter Try.func13, Try.ntmps13
  go_wp2_with fail
  refine (l3_alive _).mono ?_; rintro e1 w1 ⟨rfl, hb1⟩; have HB := Lib.hid hb1; clear hb1
  go_wp2_with fail
  refine (ref_great L _ _ (H1.out.below HB.out)).mono ?_; rintro e2 w2 ⟨rfl, rfl⟩
  go_wp2_with fail
  refine (ref_great M _ _ (H2.out.below HB.out)).mono ?_; rintro e2 w2 ⟨rfl, rfl⟩
  go_wp2_with fail
  refine (ref_good L _ _ (by omega) (H1.out.below HB.out)).mono ?_
  rintro e3 w3 ⟨v3, rfl, hi3, hb3⟩
  obtain ⟨b1, k1, rfl⟩ := hi3.form
  have HX := Lib.hid hi3.any
  have HB3 := Lib.hid (HB.out.trans (hb3.mono HB.out.size))
  clear hi3 hb3
  go_wp2_with fail
  refine (ref_good M _ _ (by omega) (H2.out.below HB3.out)).mono ?_
  rintro e4 w4 ⟨v4, rfl, hi4, hb4⟩
  obtain ⟨b2, k2, rfl⟩ := hi4.form
  have HY := Lib.hid hi4.any
  have HX4 := Lib.hid (HX.out.below hb4)
  have HB4 := Lib.hid (HB3.out.trans (hb4.mono HB3.out.size))
  clear hi4 hb4
  go_wp2_with fail
  obtain ⟨r0, r1, rsz, rbl⟩ := two w4 (.cells #[.int .i64 (goodT L).k, .int .i64 (goodT L).n, .string (goodT L).s, .slice b1 (goodT L).args.length k1] 29 (0, 0)) (.cells #[.int .i64 (goodT M).k, .int .i64 (goodT M).n, .string (goodT M).s, .slice b2 (goodT M).args.length k2] 29 (0, 0))
  generalize ((w4.alloc (.cells #[.int .i64 (goodT L).k, .int .i64 (goodT L).n, .string (goodT L).s, .slice b1 (goodT L).args.length k1] 29 (0, 0))).alloc (.cells #[.int .i64 (goodT M).k, .int .i64 (goodT M).n, .string (goodT M).s, .slice b2 (goodT M).args.length k2] 29 (0, 0))) = W at *
  have HX5 := Lib.hid (HX4.out.below rbl)
  have HY5 := Lib.hid (HY.out.below rbl)
  have HB5 := Lib.hid (HB4.out.trans (rbl.mono HB4.out.size))
  have R0 := Lib.hid r0
  have R1 := Lib.hid r1
  have RS := Lib.hid rsz
  clear r0 r1 rbl HX HX4 HY HB HB3 HB4 rsz
  refine (ref_good L _ _ (by omega) (H1.out.below HB5.out)).mono ?_
  rintro e6 w6 ⟨v6, rfl, hi6, hb6⟩
  obtain ⟨b6, k6, rfl⟩ := hi6.form
  have HW6 := Lib.hid hi6.any
  have HX6 := Lib.hid (HX5.out.below hb6)
  have HY6 := Lib.hid (HY5.out.below hb6)
  have HB6 := Lib.hid (HB5.out.trans (hb6.mono HB5.out.size))
  have R60 := Lib.hid ((hb6.block w4.heap.size (by have := RS.out; omega)).trans R0.out)
  have R61 := Lib.hid ((hb6.block (w4.heap.size + 1) (by have := RS.out; omega)).trans R1.out)
  have RS6 : Hid (w4.heap.size + 2 ≤ w6.heap.size) := Lib.hid (by have := RS.out; have := hb6.size; omega)
  clear hi6 hb6 HX5 HY5 HB5 R0 R1 RS H1 H2
  have f1 := vars_rv (goodT L) (good_nf L)
  have f2 := rc_cmp (goodT L) (goodT M) (good_nf L) (good_nf M)
  have f3 := num_rr (goodT L) (good_nf L)
  generalize goodT L = X at *
  generalize goodT M = Y at *
  have hX : X.size ≤ 1000000 := by omega
  have hY : Y.size ≤ 1000000 := by omega
  have F1 := Lib.hid f1
  have F2 := Lib.hid f2
  have F3 := Lib.hid f3
  clear z1 z2 f1 f2 f3
  go_wp2
  refine wp_region_rest (by kernel_rfl) ?_
  have hd : Below w6.heap.size w6 (w6.alloc (.cells #[.int .i64 X.k, .int .i64 X.n, .string X.s, .slice b6 X.args.length k6] 29 (0, 0))).drew := ((Below.refl _ _).alloc (Nat.le_refl _) _).drew
  have hw0 : (w6.alloc (.cells #[.int .i64 X.k, .int .i64 X.n, .string X.s, .slice b6 X.args.length k6] 29 (0, 0))).drew.heap[w6.heap.size]? = _ := heap_alloc_new w6 (.cells #[.int .i64 X.k, .int .i64 X.n, .string X.s, .slice b6 X.args.length k6] 29 (0, 0))
  have hs0 : (w6.alloc (.cells #[.int .i64 X.k, .int .i64 X.n, .string X.s, .slice b6 X.args.length k6] 29 (0, 0))).drew.heap.size = w6.heap.size + 1 := by simp [World.drew]
  generalize (w6.alloc (.cells #[.int .i64 X.k, .int .i64 X.n, .string X.s, .slice b6 X.args.length k6] 29 (0, 0))).drew = W0 at *
  have HX7 := Lib.hid (HX6.out.below hd)
  have HY7 := Lib.hid (HY6.out.below hd)
  have HW7 := Lib.hid (HW6.out.below hd)
  have HB7 := Lib.hid (HB6.out.trans (hd.mono HB6.out.size))
  have r70 := (hd.block w4.heap.size (by have := RS6.out; omega)).trans R60.out
  have r71 := (hd.block (w4.heap.size + 1) (by have := RS6.out; omega)).trans R61.out
  have HR0 := Lib.hid r70
  have HR1 := Lib.hid r71
  have HRW := Lib.hid hw0
  have HS0 : Hid (W0.heap.size = w6.heap.size + 1 ∧ w4.heap.size + 2 ≤ w6.heap.size) := Lib.hid ⟨hs0, RS6.out⟩
  obtain ⟨x0, x1, x2, x3⟩ := row4 r70
  clear hd hw0 hs0 HX6 HY6 HW6 HB6 R60 R61 RS6 r70 r71
  generalize w4.heap.size = b at *
  generalize w6.heap.size = bw at *
  refine rest_chain 0 6 [(false, [0, 2]), (true, [1]), (true, [3]), (false, [4, 5])] [(false, [_, _]), (true, [_]), (true, [_]), (false, [_, _])] rfl (by kernel_rfl) (by kernel_rfl) rfl (by kernel_rfl) (by kernel_rfl) (.inl rfl) ?_
  refine chain_soft ?_
  intro E hE
  go_wp2
  clear x0 x1 x2 x3
  refine chain_one ?_
  intro E hE
  go_wp2_with (go_at_call 18
               refine (tm_Vars X _ _ _ (by omega) HX7.out).mono ?_
               rintro e7 w7 ⟨v7, rfl, hi7, hb7⟩
               rw [F1.out] at hi7
               obtain ⟨p7, q7, rfl, -, -, -⟩ := id hi7
               have HP7 := Lib.hid hi7
               have HC7 := Lib.hid hb7
               clear hi7 hb7)
  refine ⟨HC7.out, ?_⟩
  refine chain_one ?_
  intro E hE
  go_wp2_with (go_at_call 52
               refine (ref_vars X.size X _ _ _ (Nat.le_refl _) (by omega) (HX7.out.below HC7.out)).mono ?_
               rintro e8 w8 ⟨v8, rfl, hi8, hb8⟩
               obtain ⟨p8, q8, rfl, -, -, -⟩ := id hi8
               have HQ8 := Lib.hid hi8
               have HC8 := Lib.hid hb8
               clear hi8 hb8)
  refine ⟨HC8.out, ?_⟩
  refine chain_soft ?_
  intro E hE
  go_wp2
  refine chain_nil (rest_end (by decide) ?_)
  have hd : Below W0.heap.size W0 w8 := HC7.out.trans (HC8.out.mono HC7.out.size)
  have HX8 := Lib.hid (HX7.out.below hd)
  have HY8 := Lib.hid (HY7.out.below hd)
  have HW8 := Lib.hid (HW7.out.below hd)
  have HP8 := Lib.hid (HP7.out.below HC8.out)
  have HB8 := Lib.hid (HB7.out.trans (hd.mono HB7.out.size))
  have HR80 := Lib.hid ((hd.block b (by have := HS0.out; omega)).trans HR0.out)
  have HR81 := Lib.hid ((hd.block (b + 1) (by have := HS0.out; omega)).trans HR1.out)
  have HRW8 := Lib.hid ((hd.block bw (by have := HS0.out; omega)).trans HRW.out)
  have HS8 : Hid (bw + 1 ≤ w8.heap.size ∧ b + 2 ≤ bw) := Lib.hid ⟨by have := hd.size; have := HS0.out; omega, HS0.out.2⟩
  have hvl := rvT_len X
  have hvl2 : (rvT X).length ≤ 1000000 := by omega
  clear hd HX7 HY7 HW7 HP7 HB7 HR0 HR1 HRW HS0 HC7 HC8 hvl F1
  go_wp2
  refine wp_region_rest (by kernel_rfl) ?_
  have hd : Below w8.heap.size w8 w8.drew := (Below.refl _ _).drew
  replace HX8 := Lib.hid (HX8.out.below hd)
  replace HY8 := Lib.hid (HY8.out.below hd)
  replace HW8 := Lib.hid (HW8.out.below hd)
  replace HP8 := Lib.hid (HP8.out.below hd)
  replace HQ8 := Lib.hid (HQ8.out.below hd)
  replace HB8 := Lib.hid HB8.out.drew
  replace HR80 : Hid (w8.drew.heap[b]? = _) := Lib.hid HR80.out
  replace HR81 : Hid (w8.drew.heap[b + 1]? = _) := Lib.hid HR81.out
  replace HRW8 : Hid (w8.drew.heap[bw]? = _) := Lib.hid HRW8.out
  replace HS8 : Hid (bw + 1 ≤ w8.drew.heap.size ∧ b + 2 ≤ bw) := HS8
  clear hd
  generalize w8.drew = W8 at *
  obtain ⟨x0, x1, x2, x3⟩ := row4 HR80.out
  obtain ⟨y0, y1, y2, y3⟩ := row4 HR81.out
  refine rest_chain 0 14 [(false, [0, 1, 3, 4]), (true, [2]), (true, [5]), (false, [6, 7, 8, 9, 10, 11, 12, 13])] [(false, [_, _, _, _]), (true, [_]), (true, [_]), (false, [_, _, _, _, _, _, _, _])] rfl (by kernel_rfl) (by kernel_rfl) rfl (by kernel_rfl) (by kernel_rfl) (.inl rfl) ?_
  refine chain_soft ?_
  intro E hE
  go_wp2
  clear x0 x1 x2 x3 y0 y1 y2 y3
  refine chain_one ?_
  intro E hE
  go_wp2_with (go_at_call 53
               refine (tm_Compare X Y _ _ _ _ _ (by omega) (by omega) HX8.out HY8.out).mono ?_
               rintro e9 w9 ⟨rfl, hb9⟩
               have HC9 := Lib.hid hb9
               clear hb9)
  refine ⟨HC9.out, ?_⟩
  refine chain_one ?_
  intro E hE
  go_wp2_with (go_at_call 54
               refine (ref_cmp X.size X Y _ _ _ _ _ (Nat.le_refl _) (by omega) (by omega) (HX8.out.below HC9.out) (HY8.out.below HC9.out)).mono ?_
               rintro e10 w10 ⟨rfl, hb10⟩
               rw [F2.out]
               have HC10 := Lib.hid hb10
               clear hb10)
  refine ⟨HC10.out, ?_⟩
  have hcc : (cmpT X Y != cmpT X Y) = false := by simp
  have hll : (((rvT X).length : Int) != ((rvT X).length : Int)) = false := by simp
  clear F2
  generalize cmpT X Y = cc at *
  refine chain_soft ?_
  intro E hE
  go_wp2
  refine chain_nil (rest_end (by decide) ?_)
  have hd : Below W8.heap.size W8 w10 := HC9.out.trans (HC10.out.mono HC9.out.size)
  replace HX8 := Lib.hid (HX8.out.below hd)
  replace HW8 := Lib.hid (HW8.out.below hd)
  replace HP8 := Lib.hid (HP8.out.below hd)
  replace HQ8 := Lib.hid (HQ8.out.below hd)
  replace HB8 := Lib.hid (HB8.out.trans (hd.mono HB8.out.size))
  replace HR80 := Lib.hid ((hd.block b (by have := HS8.out; omega)).trans HR80.out)
  replace HRW8 := Lib.hid ((hd.block bw (by have := HS8.out; omega)).trans HRW8.out)
  replace HS8 : Hid (bw + 1 ≤ w10.heap.size ∧ b + 2 ≤ bw) := Lib.hid ⟨by have := hd.size; have := HS8.out; omega, HS8.out.2⟩
  clear hd HR81 HY8 HC9 HC10
  go_wp2
  have hst : LpRel (rvT X).length w10 (.int .i64 ((0 : Nat) : Int)) w10 := ⟨0, by omega, rfl, Below.refl _ _⟩
  have HST := Lib.hid hst
  clear hst hcc hll
  go_loopw [51] (fun vi wr => LpRel (rvT X).length w10 vi wr) (fun vi _ => (rvT X).length - (intOf vi).toNat)
  case atStart => exact HST.out
  case round =>
    obtain ⟨k, hk, rfl, hbl⟩ := hrel
    have HBL := Lib.hid hbl
    clear hbl HST
    by_cases hkl : k < (rvT X).length
    · obtain ⟨pa, pc, ep, -, -, hpc⟩ := id (HP8.out.below HBL.out)
      obtain ⟨qa, qc, eq, -, -, hqc⟩ := id (HQ8.out.below HBL.out)
      simp only [Value.slice.injEq, true_and] at ep eq
      obtain ⟨rfl, rfl⟩ := ep
      obtain ⟨rfl, rfl⟩ := eq
      obtain ⟨gp, op, rfl, -, -, y0⟩ := hpc k hkl
      obtain ⟨gq, oq, rfl, -, -, y1⟩ := hqc k hkl
      clear hpc hqc
      generalize (rvT X)[k] = z at *
      have hzz : (z != z) = false := by simp
      have hin : (k : Int) < ((rvT X).length : Int) := by omega
      have hin0 : (0 : Int) ≤ (k : Int) := by omega
      generalize (rvT X).length = len at *
      go_wp2
      refine wp_region_rest (by kernel_rfl) ?_
      have y0' : wr.drew.cell? ⟨gp, op + k, none⟩ = _ := y0
      have y1' : wr.drew.cell? ⟨gq, oq + k, none⟩ = _ := y1
      have HBD := Lib.hid HBL.out.drew
      clear y0 y1 HBL
      generalize wr.drew = W9 at *
      refine rest_chain 0 9 [(false, [0, 1, 2, 3, 4, 5, 6, 7, 8])] [(false, [_, _, _, _, _, _, _, _, _])] rfl (by kernel_rfl) (by kernel_rfl) rfl (by kernel_rfl) (by kernel_rfl) (.inl rfl) ?_
      refine chain_soft ?_
      intro E hE
      go_wp2
      refine chain_nil (rest_end (by decide) ?_)
      go_wp2
      go_roundw
      case rel => exact ⟨k + 1, by omega, by go_num, HBD.out⟩
      case measure => simp [intOf]; omega
    · have hin : decide ((k : Int) < ((rvT X).length : Int)) = false := by simp; omega
      have HX11 := Lib.hid (HX8.out.below HBL.out)
      have HW11 := Lib.hid (HW8.out.below HBL.out)
      have HB11 := Lib.hid (HB8.out.trans (HBL.out.mono HB8.out.size))
      have HR110 := Lib.hid ((HBL.out.block b (by have := HS8.out; omega)).trans HR80.out)
      have HR11W := Lib.hid ((HBL.out.block bw (by have := HS8.out; omega)).trans HRW8.out)
      have HS11 : Hid (bw + 1 ≤ wr.heap.size ∧ b + 2 ≤ bw) := Lib.hid ⟨by have := HBL.out.size; have := HS8.out; omega, HS8.out.2⟩
      clear HBL HX8 HW8 HB8 HR80 HRW8 HS8 HP8 HQ8
      generalize (rvT X).length = len at *
      obtain ⟨x0, x1, x2, x3⟩ := row4 HR110.out
      go_wp2_with fail
      refine (tm_items X _ _ _ (by omega) HX11.out).mono ?_
      rintro e12 w12 ⟨v12, u12, ia, ic, rfl, rfl, -, -, -, hsl, htl, hb12⟩
      obtain ⟨ta, tc, rfl⟩ := htl.form
      have HX12 := Lib.hid (HX11.out.below hb12)
      have HW12 := Lib.hid (HW11.out.below hb12)
      have HB12 := Lib.hid (HB11.out.trans (hb12.mono HB11.out.size))
      have hr12 := (hb12.block b (by have := HS11.out; omega)).trans HR110.out
      have HR120 := Lib.hid hr12
      have HR12W := Lib.hid ((hb12.block bw (by have := HS11.out; omega)).trans HR11W.out)
      have HS12 : Hid (bw + 1 ≤ w12.heap.size ∧ b + 2 ≤ bw) := Lib.hid ⟨by have := hb12.size; have := HS11.out; omega, HS11.out.2⟩
      have HIL := Lib.hid hsl
      have HIT := Lib.hid htl
      clear hsl htl hb12 HX11 HW11 HB11 HR110 HR11W HS11 x0 x1 x2 x3 hr12
      have his := items_size X
      have hz1 : sizeL (itemsT X).1 ≤ 1000000 := by omega
      have hz2 : (itemsT X).2.size ≤ 1000000 := by omega
      have hbt : Below w12.heap.size w12 (w12.alloc (.cells #[.int .i64 (itemsT X).2.k, .int .i64 (itemsT X).2.n, .string (itemsT X).2.s, .slice ta (itemsT X).2.args.length tc] 29 (0, 0))) := (Below.refl _ _).alloc (Nat.le_refl _) _
      have hnt := heap_alloc_new w12 (.cells #[.int .i64 (itemsT X).2.k, .int .i64 (itemsT X).2.n, .string (itemsT X).2.s, .slice ta (itemsT X).2.args.length tc] 29 (0, 0))
      have hst : (w12.alloc (.cells #[.int .i64 (itemsT X).2.k, .int .i64 (itemsT X).2.n, .string (itemsT X).2.s, .slice ta (itemsT X).2.args.length tc] 29 (0, 0))).heap.size = w12.heap.size + 1 := by simp
      have HBT := Lib.hid hbt
      have HNT := Lib.hid hnt
      have HST := Lib.hid hst
      have x3 := (hbt.block b (by have := HS12.out; omega)).trans HR120.out
      obtain ⟨x0, x1, x2, x3⟩ := row4 x3
      clear hbt hnt hst his
      go_wp2_with fail
      generalize w12.alloc (.cells #[.int .i64 (itemsT X).2.k, .int .i64 (itemsT X).2.n, .string (itemsT X).2.s, .slice ta (itemsT X).2.args.length tc] 29 (0, 0)) = W13 at *
      have HX13 := Lib.hid (HX12.out.below HBT.out)
      refine (ref_items X _ _ _ (by omega) HX13.out).mono ?_
      rintro e14 w14 ⟨v14, u14, rfl, hsl, htl, hb14⟩
      obtain ⟨ja, jc, rfl⟩ := hsl.form
      obtain ⟨sa, sc, rfl⟩ := htl.form
      have hd : Below w12.heap.size w12 w14 := HBT.out.trans (hb14.mono HBT.out.size)
      have HX14 := Lib.hid (HX13.out.below hb14)
      have HW14 := Lib.hid (HW12.out.below hd)
      have HB14 := Lib.hid (HB12.out.trans (hd.mono HB12.out.size))
      have hr14 := (hd.block b (by have := HS12.out; omega)).trans HR120.out
      have HR140 := Lib.hid hr14
      have HR14W := Lib.hid ((hd.block bw (by have := HS12.out; omega)).trans HR12W.out)
      have HNT14 := Lib.hid ((hb14.block w12.heap.size (by have := HST.out; omega)).trans HNT.out)
      have HS14 : Hid (w12.heap.size + 1 ≤ w14.heap.size ∧ bw + 1 ≤ w12.heap.size ∧ b + 2 ≤ bw) := Lib.hid ⟨by have := hb14.size; have := HST.out; omega, HS12.out.1, HS12.out.2⟩
      have HIL14 := Lib.hid (HIL.out.below hd)
      have HIT14 := Lib.hid (HIT.out.below hd)
      have HJL := Lib.hid hsl
      have HJT := Lib.hid htl
      clear hsl htl hb14 hd HX12 HX13 HW12 HB12 HR120 HR12W HS12 x0 x1 x2 x3 hr14 HBT HNT HST HIL HIT
      generalize (itemsT X).1 = IS at *
      generalize (itemsT X).2 = IT at *
      generalize w12.heap.size = bt at *
      have hbt : Below w14.heap.size w14 (w14.alloc (.cells #[.int .i64 IT.k, .int .i64 IT.n, .string IT.s, .slice sa IT.args.length sc] 29 (0, 0))) := (Below.refl _ _).alloc (Nat.le_refl _) _
      have hnt := heap_alloc_new w14 (.cells #[.int .i64 IT.k, .int .i64 IT.n, .string IT.s, .slice sa IT.args.length sc] 29 (0, 0))
      have hst : (w14.alloc (.cells #[.int .i64 IT.k, .int .i64 IT.n, .string IT.s, .slice sa IT.args.length sc] 29 (0, 0))).heap.size = w14.heap.size + 1 := by simp
      have HBT := Lib.hid hbt
      have HNT := Lib.hid hnt
      have HST := Lib.hid hst
      have x3 := (hbt.block b (by have := HS14.out; omega)).trans HR140.out
      obtain ⟨x0, x1, x2, x3⟩ := row4 x3
      clear hbt hnt hst
      go_wp2_with fail
      generalize w14.alloc (.cells #[.int .i64 IT.k, .int .i64 IT.n, .string IT.s, .slice sa IT.args.length sc] 29 (0, 0)) = W15 at *
      have HX15 := Lib.hid (HX14.out.below HBT.out)
      have KX := Lib.hid (HX14.out.below HBT.out)
      have KW := Lib.hid (HW14.out.below HBT.out)
      have KB := Lib.hid (HB14.out.trans (HBT.out.mono HB14.out.size))
      have KRX := Lib.hid ((HBT.out.block b (by have := HS14.out; omega)).trans HR140.out)
      have KRW := Lib.hid ((HBT.out.block bw (by have := HS14.out; omega)).trans HR14W.out)
      refine (tm_NumberP X _ _ _ (by omega) HX15.out).mono ?_
      rintro e16 w16 ⟨v16, rfl, hnu, hb16⟩
      obtain ⟨na, nc, rfl⟩ := hnu.form
      have hd : Below w14.heap.size w14 w16 := HBT.out.trans (hb16.mono HBT.out.size)
      have HX16 := Lib.hid (HX15.out.below hb16)
      have HW16 := Lib.hid (HW14.out.below hd)
      have HB16 := Lib.hid (HB14.out.trans (hd.mono HB14.out.size))
      have HR160 := Lib.hid ((hd.block b (by have := HS14.out; omega)).trans HR140.out)
      have HR16W := Lib.hid ((hd.block bw (by have := HS14.out; omega)).trans HR14W.out)
      have HNT16 := Lib.hid ((hd.block bt (by have := HS14.out; omega)).trans HNT14.out)
      have HMT16 := Lib.hid ((hb16.block w14.heap.size (by have := HST.out; omega)).trans HNT.out)
      have HS16 : Hid (w14.heap.size + 1 ≤ w16.heap.size ∧ bt + 1 ≤ w14.heap.size ∧ bw + 1 ≤ bt ∧ b + 2 ≤ bw) := Lib.hid ⟨by have := hb16.size; have := HST.out; omega, HS14.out⟩
      have HN : Hid (w14.heap.size + 1 ≤ W15.heap.size ∧ W15.heap.size ≤ w16.heap.size) := Lib.hid ⟨by have := HST.out; omega, hb16.size⟩
      have HIL16 := Lib.hid (HIL14.out.below hd)
      have HIT16 := Lib.hid (HIT14.out.below hd)
      have HJL16 := Lib.hid ((HJL.out.below HBT.out).below hb16)
      have HJT16 := Lib.hid ((HJT.out.below HBT.out).below hb16)
      have HNU := Lib.hid hnu
      have HNB := Lib.hid hb16
      clear hnu hb16 hd HX14 HX15 HW14 HB14 HR140 HR14W HS14 x0 x1 x2 x3 HBT HNT HST HIL14 HIT14 HJL HJT HNT14
      generalize w14.heap.size = bs at *
      have hnz := numT_size X
      have hn9 : (numT X).size ≤ 1000000 := by omega
      have hnl : (numT X).args.length ≤ 1000000 := by have := len_le (numT X).args; have : sizeL (numT X).args + 1 = (numT X).size := (by obtain ⟨k1, n1, s1, a1⟩ := numT X; simp [Tm.size, Tm.args]); omega
      clear hnz
      generalize numT X = NX at *
      go_wp2
      refine wp_region_rest (by kernel_rfl) ?_
      have hd : Below w16.heap.size w16 (w16.alloc (.cells #[.int .i64 NX.k, .int .i64 NX.n, .string NX.s, .slice na NX.args.length nc] 29 (0, 0))).drew := ((Below.refl _ _).alloc (Nat.le_refl _) _).drew
      have hw0 : (w16.alloc (.cells #[.int .i64 NX.k, .int .i64 NX.n, .string NX.s, .slice na NX.args.length nc] 29 (0, 0))).drew.heap[w16.heap.size]? = _ := heap_alloc_new w16 (.cells #[.int .i64 NX.k, .int .i64 NX.n, .string NX.s, .slice na NX.args.length nc] 29 (0, 0))
      have hs0 : (w16.alloc (.cells #[.int .i64 NX.k, .int .i64 NX.n, .string NX.s, .slice na NX.args.length nc] 29 (0, 0))).drew.heap.size = w16.heap.size + 1 := by simp [World.drew]
      generalize (w16.alloc (.cells #[.int .i64 NX.k, .int .i64 NX.n, .string NX.s, .slice na NX.args.length nc] 29 (0, 0))).drew = W0 at *
      have HXA := Lib.hid (HX16.out.below hd)
      have HWA := Lib.hid (HW16.out.below hd)
      have HBA := Lib.hid (HB16.out.trans (hd.mono HB16.out.size))
      have hra := (hd.block b (by have := HS16.out; omega)).trans HR160.out
      have HRA := Lib.hid hra
      have HRW := Lib.hid ((hd.block bw (by have := HS16.out; omega)).trans HR16W.out)
      have HRT := Lib.hid ((hd.block bt (by have := HS16.out; omega)).trans HNT16.out)
      have HRS := Lib.hid ((hd.block bs (by have := HS16.out; omega)).trans HMT16.out)
      have HRN := Lib.hid hw0
      have HSA : Hid (W0.heap.size = w16.heap.size + 1 ∧ bs + 1 ≤ w16.heap.size ∧ bt + 1 ≤ bs ∧ bw + 1 ≤ bt ∧ b + 2 ≤ bw) := Lib.hid ⟨hs0, HS16.out⟩
      have HILA := Lib.hid (HIL16.out.below hd)
      have HITA := Lib.hid (HIT16.out.below hd)
      have HJLA := Lib.hid (HJL16.out.below hd)
      have HJTA := Lib.hid (HJT16.out.below hd)
      have HNA := Lib.hid (HNU.out.below hd)
      have HNBA := Lib.hid (HNB.out.trans (hd.mono HNB.out.size))
      have hrows : ∀ i, i < NX.args.length → ∃ g off cur, na = some ⟨g, off, none⟩ ∧ W15.heap.size ≤ g ∧ g < w16.heap.size ∧ W0.heap[g]? = some (.cells cur 29 (0, 0)) ∧ off + i * 4 + 2 < cur.size := fun i hi => by
        obtain ⟨g, off, ea, ⟨hg1, cur, hg2⟩, hat⟩ := HNU.out.args.at i hi
        have hgl := (Array.getElem?_eq_some_iff.1 hg2).1
        obtain ⟨_, _, -, -, z2, -⟩ := hat.read
        refine ⟨g, off, cur, ea, hg1, hgl, (hd.block g hgl).trans hg2, ?_⟩
        simp [World.cell?, hg2] at z2
        exact (Array.getElem?_eq_some_iff.1 z2).1
      have HROWS := Lib.hid hrows
      obtain ⟨x0, x1, x2, x3⟩ := row4 hra
      obtain ⟨n0, n1, n2, n3⟩ := row4 hw0
      clear hd hw0 hs0 hra hrows HX16 HW16 HB16 HR160 HR16W HNT16 HMT16 HS16 HIL16 HIT16 HJL16 HJT16 HNU HNB
      generalize w16.heap.size = bn at *
      refine rest_chain 0 17 [(false, [0, 1]), (true, [2]), (true, [3]), (false, [4, 5, 6, 7]), (true, [8]), (false, [9, 10, 11, 12, 13]), (true, [14]), (false, [15, 16])] [(false, [_, _]), (true, [_]), (true, [_]), (false, [_, _, _, _]), (true, [_]), (false, [_, _, _, _, _]), (true, [_]), (false, [_, _])] rfl (by kernel_rfl) (by kernel_rfl) rfl (by kernel_rfl) (by kernel_rfl) (.inl rfl) ?_
      refine chain_soft ?_
      intro E hE
      go_wp2
      clear x0 x1 x2 x3 n0 n1 n2 n3
      refine chain_one ?_
      intro E hE
      go_wp2_with (go_at_call 57
                   refine (ref_number X _ _ _ (by omega) HXA.out).mono ?_
                   rw [← F3.out]
                   rintro e17 w17 ⟨v17, rfl, hi17, hb17⟩
                   obtain ⟨oa, oc, rfl⟩ := hi17.form
                   have HI17 := Lib.hid hi17
                   have HC17 := Lib.hid hb17
                   clear hi17 hb17)
      refine ⟨HC17.out, ?_⟩
      refine chain_one ?_
      intro E hE
      go_wp2_with (go_at_call 26
                   refine (ref_same NX.size NX NX _ _ _ _ _ (Nat.le_refl _) (by omega) (HNA.out.below HC17.out) HI17.out).mono ?_
                   rw [sameT_self]
                   rintro e18 w18 ⟨rfl, hb18⟩
                   have HC18 := Lib.hid hb18
                   clear hb18)
      refine ⟨HC18.out, ?_⟩
      refine chain_soft ?_
      intro E hE
      go_wp2
      refine chain_one ?_
      intro E hE
      go_wp2_with (go_at_call 33
                   refine (ref_all IS IS _ _ _ _ _ (by omega) ((HILA.out.below HC17.out).below HC18.out) ((HJLA.out.below HC17.out).below HC18.out)).mono ?_
                   rw [sameL_me]
                   rintro e19 w19 ⟨rfl, hb19⟩
                   have HC19 := Lib.hid hb19
                   clear hb19)
      refine ⟨HC19.out, ?_⟩
      have HD19 : Hid (Below W0.heap.size W0 w19) := Lib.hid (HC17.out.trans ((HC18.out.trans (HC19.out.mono HC18.out.size)).mono HC17.out.size))
      obtain ⟨t0, t1, t2, t3⟩ := row4 ((HD19.out.block bt (by have := HSA.out; omega)).trans HRT.out)
      obtain ⟨s0, s1, s2, s3⟩ := row4 ((HD19.out.block bs (by have := HSA.out; omega)).trans HRS.out)
      refine chain_soft ?_
      intro E hE
      go_wp2
      clear t0 t1 t2 t3 s0 s1 s2 s3
      refine chain_one ?_
      intro E hE
      go_wp2_with (go_at_call 26
                   refine (ref_same IT.size IT IT _ _ _ _ _ (Nat.le_refl _) (by omega) (HITA.out.below HD19.out) (HJTA.out.below HD19.out)).mono ?_
                   rw [sameT_self]
                   rintro e20 w20 ⟨rfl, hb20⟩
                   have HC20 := Lib.hid hb20
                   clear hb20)
      refine ⟨HC20.out, ?_⟩
      refine chain_soft ?_
      intro E hE
      go_wp2
      refine chain_nil (rest_end (by decide) ?_)
      have hd : Below W0.heap.size W0 w20 := HD19.out.trans (HC20.out.mono HD19.out.size)
      have hrn := (hd.block bn (by have := HSA.out; omega)).trans HRN.out
      have hst : LoRel W15 bn (.cells #[.int .i64 NX.k, .int .i64 NX.n, .string NX.s, .slice na NX.args.length nc] 29 (0, 0)) na NX.args.length (.int .i64 ((0 : Nat) : Int)) w20 :=
        ⟨0, by omega, rfl, HNBA.out.trans (hd.mono HNBA.out.size), hrn, fun i hi => by
          obtain ⟨g, off, cur, e, h1, h2, h3, h4⟩ := HROWS.out i hi
          exact ⟨g, off, cur, e, h1, h2, (hd.block g (by have := HSA.out; omega)).trans h3, h4⟩⟩
      have HST := Lib.hid hst
      obtain ⟨n0, n1, n2, n3⟩ := row4 hrn
      have HSB : Hid (bs + 1 ≤ W15.heap.size ∧ bs + 1 ≤ bn ∧ bt + 1 ≤ bs ∧ bw + 1 ≤ bt ∧ b + 2 ≤ bw) := Lib.hid ⟨by have := HN.out; omega, by have := HSA.out; omega, by have := HSA.out; omega, by have := HSA.out; omega, by have := HSA.out; omega⟩
      clear hst hd hrn HN HSA HROWS HRN HC17 HC18 HC19 HC20 HD19 HRT HRS HXA HWA HBA HRA HRW
      go_wp2
      clear n0 n1 n2 n3
      generalize NX.args.length = len at *
      go_loopw [96] (fun vi wr => LoRel W15 bn (.cells #[.int .i64 NX.k, .int .i64 NX.n, .string NX.s, .slice na len nc] 29 (0, 0)) na len vi wr) (fun vi _ => len - (intOf vi).toNat)
      case atStart => exact HST.out
      case round =>
        obtain ⟨k, hk, rfl, hbl, hrow, hrows⟩ := hrel
        have HBL := Lib.hid hbl
        have HROW := Lib.hid hrow
        have HROWS := Lib.hid hrows
        clear HST hbl hrows
        by_cases hkl : k < len
        · obtain ⟨g, off, cur, rfl, hg1, hg2, hg3, hg4⟩ := HROWS.out k hkl
          have z2 : wr.cell? ⟨g, off + k * 4 + 2, none⟩ = some cur[off + k * 4 + 2] := by simp [World.cell?, hg3, hg4]
          have z3 : wr.frozen? ⟨g, off + k * 4 + 2, none⟩ = false := frozen_of_row _ g _ _ _ hg3
          obtain ⟨n0, n1, n2, n3⟩ := row4 hrow
          have HG3 := Lib.hid hg3
          have hin : (k : Int) < (len : Int) := by omega
          have hin0 : (0 : Int) ≤ (k : Int) := by omega
          clear hrow hg3
          go_wp2
          go_roundw
          case rel =>
            refine ⟨k + 1, by omega, by go_num, HBL.out.setCell (show W15.heap.size ≤ g from hg1) _, (Below.heap_setCell _ _ _ _ (show bn ≠ g by omega)).trans HROW.out, fun i hi => ?_⟩
            obtain ⟨g', off', cur', e, h1, h2, h3, h4⟩ := HROWS.out i hi
            simp only [Option.some.injEq, Addr.mk.injEq, and_true] at e
            obtain ⟨rfl, rfl⟩ := e
            have hc := HG3.out.symm.trans h3
            simp only [Option.some.injEq, Obj.cells.injEq, and_true] at hc
            subst hc
            exact ⟨g, off, _, rfl, h1, h2, heap_setCell_same wr g _ cur _ _ HG3.out, by simpa using h4⟩
          case measure => simp [intOf]; omega
        · have hin : decide ((k : Int) < (len : Int)) = false := by simp; omega
          have HXF := Lib.hid (KX.out.below HBL.out)
          have HWF := Lib.hid (KW.out.below HBL.out)
          have HBF := Lib.hid (KB.out.trans (HBL.out.mono KB.out.size))
          obtain ⟨x0, x1, x2, x3⟩ := row4 ((HBL.out.block b (by have := HSB.out; omega)).trans KRX.out)
          obtain ⟨y0, y1, y2, y3⟩ := row4 ((HBL.out.block bw (by have := HSB.out; omega)).trans KRW.out)
          clear HBL HROW HROWS hrow KX KW KB KRX KRW
          go_wp2_with fail
          refine (ref_same X.size X X _ _ _ _ _ (Nat.le_refl _) (by omega) HXF.out HWF.out).mono ?_
          rw [sameT_self]
          rintro e21 w21 ⟨rfl, hb21⟩
          have HF := Lib.hid (HBF.out.trans (hb21.mono HBF.out.size))
          clear hb21
          go_wp2
          go_ret
          exact ⟨rfl, HF.out⟩
end Go.Proofs.Ytilmfkpflecghaa.Tms
