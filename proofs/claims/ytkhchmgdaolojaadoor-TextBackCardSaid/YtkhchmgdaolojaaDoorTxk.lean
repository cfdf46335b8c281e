
/-
  Layer 16: chars, codes, code of a call, walked.
-/
import Derived.Test.YtkhchmgdaolojaaDoorTxj
import Derived.Test.YtkhchmgdaolojaaDoorByt
namespace Go.Proofs.YtkhchmgdaolojaaDoor.Tms
open Go Go.RowKit Go.Proofs.YtkhchmgdaolojaaDoor.Reg Go.Proofs.YtkhchmgdaolojaaDoor.Rws Go.Proofs.YtkhchmgdaolojaaDoor.Maps Go.Instr
set_option linter.unusedVariables false
set_option linter.unusedSimpArgs false

/-- atom_concat -/
def concatD (a b t : Tm) : Dd := if a.k = 1 ∨ b.k = 1 then .wr (formalE 12 ⟨#[]⟩ a) else match nameT a, nameT b with
  | none, _ => .wr (formalE 13 (⟨#[97, 116, 111, 109, 105, 99]⟩ : ByteArray) a)
  | some _, none => .wr (formalE 13 (⟨#[97, 116, 111, 109, 105, 99]⟩ : ByteArray) b)
  | some x, some y => if t.k ≠ 1 ∧ nameT t = none then .wr (formalE 13 (⟨#[97, 116, 111, 109, 105, 99]⟩ : ByteArray) t) else if 1000 < x.size + y.size then .wr (formalE 3 (⟨#[109, 97, 120, 95, 97, 116, 111, 109, 95, 108, 101, 110, 103, 116, 104]⟩ : ByteArray) t) else .is 2 (atomT (x ++ y))
set_option maxRecDepth 100000 in
set_option maxHeartbeats 4000000 in
theorem tx_concat (x y z : Tm) (P : Nat → Prop) (w : World) (a : Option Addr) (c : Nat) (h : IsSl w P (.slice a 3 c) [x, y, z]) (hM : x.size ≤ 1000000) (hM' : y.size ≤ 1000000) (hM'' : z.size ≤ 1000000) (hf : Num.Fit x.n) (hf' : Num.Fit y.n) (hf'' : Num.Fit z.n) (hs1 : x.s.size ≤ 100000) (hs2 : y.s.size ≤ 100000) (ht : Num.Tab w) : Calls Tryd.prog 29 #[.agg #[.slice a 3 c]] w (TellsM (concatD x y z) P w) := by
  have HTB := Lib.hid ht
  clear ht
  obtain ⟨w1, w2, w3, w4⟩ := two w (.cells #[.slice a 3 c] 59 (0, 0)) (.cells #[.bool false, .slice none 0 0, .slice none 0 0, .int .i64 0, .int .i64 0, .string ⟨#[]⟩, .slice none 0 0] 35 (0, 0))
  have x0 := cell_of_row _ _ 0 _ _ _ w1
  have HR := Lib.hid w2
  have HC := Lib.hid w1
  have HB := Lib.hid w4
  have HZ := Lib.hid w3
  have H := Lib.hid (h.lt2.below w4)
  obtain ⟨b, off, e1, -⟩ := H.out.at 0 (by simp)
  subst e1
  clear h w1 w2 w3 w4
  have HF := Lib.hid (And.intro hf (And.intro hf' hf''))
  clear hf hf' hf''
  go_enter Tryd.func29, Tryd.ntmps29
  go_upto_region 1 with fail
  generalize ((w.alloc (.cells #[.slice (some ⟨b, off, none⟩) 3 c] 59 (0, 0))).alloc (.cells #[.bool false, .slice none 0 0, .slice none 0 0, .int .i64 0, .int .i64 0, .string ⟨#[]⟩, .slice none 0 0] 35 (0, 0))) = W1 at *
  go_cut [3, 4, 5] from 12 to 23 (fun v3 v4 v5 wx => Args3 x y z (fun b => P b ∧ b < w.heap.size) W1 v3 v4 v5 wx)
  case first =>
    refine wp_region_rest (by kernel_rfl) ?_
    have hd := (Below.refl W1.heap.size W1).drew
    have hs2 : W1.drew.heap.size = w.heap.size + 2 := HZ.out
    have h0 := H.out.below hd
    have hc2 := (hd.block _ (Array.getElem?_eq_some_iff.1 HC.out).1).trans HC.out
    have HD := Lib.hid hd
    have hlt2 : w.heap.size < W1.drew.heap.size := by rw [hs2]; omega
    clear hs2
    clear x0 HR HC HB H hd HZ
    generalize W1.drew = W2 at *
    have x0 := cell_of_row _ _ 0 _ _ _ hc2
    clear hc2
    obtain ⟨qa, qc, y0, y1, y2, y3, hit, hl1⟩ := (h0.atb 0 (by simp)).read
    obtain ⟨za, zc, z0, z1, z2, z3, hit', hl2⟩ := (h0.atb 1 (by simp)).read
    obtain ⟨va, vc, t0, t1, t2, t3, hit'', hl3⟩ := (h0.atb 2 (by simp)).read
    simp only [List.getElem_cons_zero, List.getElem_cons_succ, Nat.zero_mul, Nat.add_zero, Nat.one_mul] at y0 y1 y2 y3 z0 z1 z2 z3 hit hit' t0 t1 t2 t3 hit''
    have HI1 := Lib.hid hit.args
    have HI2 := Lib.hid hit'.args
    have HI3 := Lib.hid hit''.args
    have HQ := Lib.hid (show ∀ b, (P b ∧ b < w.heap.size) → b < W2.heap.size from fun b hb => by have := hb.2; omega)
    clear hit hit' h0 hit''
    refine rest_chainP (fun u => Below W2.heap.size W2 u) 0 18 (.soft 0 (.soft 1 (.soft 2 (.soft 3 (.soft 4 (.soft 5 (.soft 6 (.soft 7 (.soft 8 (.soft 9 (.soft 10 (.soft 11 (.three 12 13 14 (.two 13 14 (.one 14 (.one 15 (.one 16 (.one 17 .nil)))) (.one 13 (.one 15 (.one 16 (.one 17 .nil))))) (.two 12 14 (.one 14 (.one 15 (.one 16 (.one 17 .nil)))) (.one 12 (.one 15 (.one 16 (.one 17 .nil))))) (.two 12 13 (.one 13 (.one 15 (.one 16 (.one 17 .nil)))) (.one 12 (.one 15 (.one 16 (.one 17 .nil)))))))))))))))))) (.soft _ (.soft _ (.soft _ (.soft _ (.soft _ (.soft _ (.soft _ (.soft _ (.soft _ (.soft _ (.soft _ (.soft _ (.three _ _ _ (.two _ _ (.one _ (.one _ (.one _ (.one _ .nil)))) (.one _ (.one _ (.one _ (.one _ .nil))))) (.two _ _ (.one _ (.one _ (.one _ (.one _ .nil)))) (.one _ (.one _ (.one _ (.one _ .nil))))) (.two _ _ (.one _ (.one _ (.one _ (.one _ .nil)))) (.one _ (.one _ (.one _ (.one _ .nil)))))))))))))))))) ⟨rfl, ⟨rfl, ⟨rfl, ⟨rfl, ⟨rfl, ⟨rfl, ⟨rfl, ⟨rfl, ⟨rfl, ⟨rfl, ⟨rfl, ⟨rfl, ⟨rfl, rfl, rfl, ⟨rfl, rfl, ⟨rfl, ⟨rfl, ⟨rfl, ⟨rfl, trivial⟩⟩⟩⟩, ⟨rfl, ⟨rfl, ⟨rfl, ⟨rfl, trivial⟩⟩⟩⟩⟩, ⟨rfl, rfl, ⟨rfl, ⟨rfl, ⟨rfl, ⟨rfl, trivial⟩⟩⟩⟩, ⟨rfl, ⟨rfl, ⟨rfl, ⟨rfl, trivial⟩⟩⟩⟩⟩, ⟨rfl, rfl, ⟨rfl, ⟨rfl, ⟨rfl, ⟨rfl, trivial⟩⟩⟩⟩, ⟨rfl, ⟨rfl, ⟨rfl, ⟨rfl, trivial⟩⟩⟩⟩⟩⟩⟩⟩⟩⟩⟩⟩⟩⟩⟩⟩⟩⟩ (by kernel_rfl) (by kernel_rfl) (by kernel_rfl) (by kernel_rfl) (.inl rfl) (Below.refl _ _) ?_
    refine chainP_soft (a1 := ?ma1) (by kernel_rfl) (by kernel_rfl) ?mh1 ?mr1
    case mh1 =>
      intro u hu E hE
      go_wp2
      rfl
    refine chainP_soft (a1 := ?ma2) (by kernel_rfl) (by kernel_rfl) ?mh2 ?mr2
    case mh2 =>
      intro u hu E hE
      have c0 := (hu.cell (p := ⟨w.heap.size, 0, none⟩) hlt2).trans x0
      go_wp2
      rfl
    refine chainP_soft (a1 := ?ma3) (by kernel_rfl) (by kernel_rfl) ?mh3 ?mr3
    case mh3 =>
      intro u hu E hE
      go_wp2
      rfl
    refine chainP_soft (a1 := ?ma4) (by kernel_rfl) (by kernel_rfl) ?mh4 ?mr4
    case mh4 =>
      intro u hu E hE
      have c0 := (hu.cell (p := ⟨b, off, none⟩) hl1).trans y0
      have c1 := (hu.cell (p := ⟨b, off + 1, none⟩) hl1).trans y1
      have c2 := (hu.cell (p := ⟨b, off + 2, none⟩) hl1).trans y2
      have c3 := (hu.cell (p := ⟨b, off + 3, none⟩) hl1).trans y3
      go_wp2
      rfl
    refine chainP_soft (a1 := ?ma5) (by kernel_rfl) (by kernel_rfl) ?mh5 ?mr5
    case mh5 =>
      intro u hu E hE
      go_wp2
      rfl
    refine chainP_soft (a1 := ?ma6) (by kernel_rfl) (by kernel_rfl) ?mh6 ?mr6
    case mh6 =>
      intro u hu E hE
      have c0 := (hu.cell (p := ⟨w.heap.size, 0, none⟩) hlt2).trans x0
      go_wp2
      rfl
    refine chainP_soft (a1 := ?ma7) (by kernel_rfl) (by kernel_rfl) ?mh7 ?mr7
    case mh7 =>
      intro u hu E hE
      go_wp2
      rfl
    refine chainP_soft (a1 := ?ma8) (by kernel_rfl) (by kernel_rfl) ?mh8 ?mr8
    case mh8 =>
      intro u hu E hE
      have c0 := (hu.cell (p := ⟨b, off + 4, none⟩) hl1).trans z0
      have c1 := (hu.cell (p := ⟨b, off + 4 + 1, none⟩) hl1).trans z1
      have c2 := (hu.cell (p := ⟨b, off + 4 + 2, none⟩) hl1).trans z2
      have c3 := (hu.cell (p := ⟨b, off + 4 + 3, none⟩) hl1).trans z3
      go_wp2
      rfl
    refine chainP_soft (a1 := ?ma9) (by kernel_rfl) (by kernel_rfl) ?mh9 ?mr9
    case mh9 =>
      intro u hu E hE
      go_wp2
      rfl
    refine chainP_soft (a1 := ?ma10) (by kernel_rfl) (by kernel_rfl) ?mh10 ?mr10
    case mh10 =>
      intro u hu E hE
      have c0 := (hu.cell (p := ⟨w.heap.size, 0, none⟩) hlt2).trans x0
      go_wp2
      rfl
    refine chainP_soft (a1 := ?ma11) (by kernel_rfl) (by kernel_rfl) ?mh11 ?mr11
    case mh11 =>
      intro u hu E hE
      go_wp2
      rfl
    refine chainP_soft (a1 := ?ma12) (by kernel_rfl) (by kernel_rfl) ?mh12 ?mr12
    case mh12 =>
      intro u hu E hE
      have c0 := (hu.cell (p := ⟨b, off + 2 * 4, none⟩) hl1).trans t0
      have c1 := (hu.cell (p := ⟨b, off + 2 * 4 + 1, none⟩) hl1).trans t1
      have c2 := (hu.cell (p := ⟨b, off + 2 * 4 + 2, none⟩) hl1).trans t2
      have c3 := (hu.cell (p := ⟨b, off + 2 * 4 + 3, none⟩) hl1).trans t3
      go_wp2
      rfl
    clear x0 y0 y1 y2 y3 z0 z1 z2 z3 t0 t1 t2 t3
    refine chainP_three ?_ ?_ ?_
    · intro E hE
      go_wp2
      refine ⟨(Below.refl W2.heap.size W2).alloc (Nat.le_refl _) _, ?_⟩
      refine chainP_two ?_ ?_
      · intro E hE
        go_wp2
        refine ⟨(two W2 (.cells #[.int .i64 0, .int .i64 0, .string ⟨#[]⟩, .slice none 0 0] 28 (0, 0)) (.cells #[.int .i64 0, .int .i64 0, .string ⟨#[]⟩, .slice none 0 0] 28 (0, 0))).2.2.2, ?_⟩
        refine chainP_one ?_
        intro E hE
        go_wp2
        have HK := Lib.hid (three W2 (.cells #[.int .i64 0, .int .i64 0, .string ⟨#[]⟩, .slice none 0 0] 28 (0, 0)) (.cells #[.int .i64 0, .int .i64 0, .string ⟨#[]⟩, .slice none 0 0] 28 (0, 0)) (.cells #[.int .i64 0, .int .i64 0, .string ⟨#[]⟩, .slice none 0 0] 28 (0, 0)))
        refine ⟨HK.out.2.2.2, ?_⟩
        refine chainP_one ?_
        intro E hE
        go_wp2_with (refine wpList_store_row rfl 28 (.tmp 3) (.tmp 15) rfl W2.heap.size #[.int .i64 x.k, .int .i64 x.n, .string x.s, .slice qa x.args.length qc] rfl rfl _ _ HK.out.1 size_term rfl (one4 _ _ _ _ _ _) ?_)
        refine ⟨(below_row HK.out.2.2.2 (by omega)), ?_⟩
        refine chainP_one ?_
        intro E hE
        go_wp2_with (refine wpList_store_row rfl 28 (.tmp 4) (.tmp 19) rfl (W2.heap.size + 1) #[.int .i64 y.k, .int .i64 y.n, .string y.s, .slice za y.args.length zc] rfl rfl _ _ ((setRow_other _ _ _ _ (by omega)).trans HK.out.2.1) size_term rfl (one4 _ _ _ _ _ _) ?_)
        refine ⟨(below_row (below_row HK.out.2.2.2 (by omega)) (by omega)), ?_⟩
        refine chainP_one ?_
        intro E hE
        go_wp2_with (refine wpList_store_row rfl 28 (.tmp 5) (.tmp 23) rfl (W2.heap.size + 2) #[.int .i64 z.k, .int .i64 z.n, .string z.s, .slice va z.args.length vc] rfl rfl _ _ ((setRow_other _ _ _ _ (by omega)).trans ((setRow_other _ _ _ _ (by omega)).trans HK.out.2.2.1)) size_term rfl (one4 _ _ _ _ _ _) ?_)
        refine ⟨(below_row (below_row (below_row HK.out.2.2.2 (by omega)) (by omega)) (by omega)), ?_⟩
        have HFIN := Lib.hid (args_three (g := W2.heap.size) (g' := (W2.heap.size + 1)) (g'' := (W2.heap.size + 2)) HK.out.2.2.2 (by omega) (by omega) (by omega) (by omega) (by omega) (by omega) HQ.out HK.out.1 HK.out.2.1 HK.out.2.2.1 (HI1.out.below HK.out.2.2.2) (HI2.out.below HK.out.2.2.2) (HI3.out.below HK.out.2.2.2))
        clear HK
        refine chainP_nil (rest_end (by decide) ?_)
        go_wp2
        go_meet
        exact Args3.lift HD.out HFIN.out
      · intro E hE
        go_wp2
        refine ⟨(two W2 (.cells #[.int .i64 0, .int .i64 0, .string ⟨#[]⟩, .slice none 0 0] 28 (0, 0)) (.cells #[.int .i64 0, .int .i64 0, .string ⟨#[]⟩, .slice none 0 0] 28 (0, 0))).2.2.2, ?_⟩
        refine chainP_one ?_
        intro E hE
        go_wp2
        have HK := Lib.hid (three W2 (.cells #[.int .i64 0, .int .i64 0, .string ⟨#[]⟩, .slice none 0 0] 28 (0, 0)) (.cells #[.int .i64 0, .int .i64 0, .string ⟨#[]⟩, .slice none 0 0] 28 (0, 0)) (.cells #[.int .i64 0, .int .i64 0, .string ⟨#[]⟩, .slice none 0 0] 28 (0, 0)))
        refine ⟨HK.out.2.2.2, ?_⟩
        refine chainP_one ?_
        intro E hE
        go_wp2_with (refine wpList_store_row rfl 28 (.tmp 3) (.tmp 15) rfl W2.heap.size #[.int .i64 x.k, .int .i64 x.n, .string x.s, .slice qa x.args.length qc] rfl rfl _ _ HK.out.1 size_term rfl (one4 _ _ _ _ _ _) ?_)
        refine ⟨(below_row HK.out.2.2.2 (by omega)), ?_⟩
        refine chainP_one ?_
        intro E hE
        go_wp2_with (refine wpList_store_row rfl 28 (.tmp 4) (.tmp 19) rfl (W2.heap.size + 2) #[.int .i64 y.k, .int .i64 y.n, .string y.s, .slice za y.args.length zc] rfl rfl _ _ ((setRow_other _ _ _ _ (by omega)).trans HK.out.2.2.1) size_term rfl (one4 _ _ _ _ _ _) ?_)
        refine ⟨(below_row (below_row HK.out.2.2.2 (by omega)) (by omega)), ?_⟩
        refine chainP_one ?_
        intro E hE
        go_wp2_with (refine wpList_store_row rfl 28 (.tmp 5) (.tmp 23) rfl (W2.heap.size + 1) #[.int .i64 z.k, .int .i64 z.n, .string z.s, .slice va z.args.length vc] rfl rfl _ _ ((setRow_other _ _ _ _ (by omega)).trans ((setRow_other _ _ _ _ (by omega)).trans HK.out.2.1)) size_term rfl (one4 _ _ _ _ _ _) ?_)
        refine ⟨(below_row (below_row (below_row HK.out.2.2.2 (by omega)) (by omega)) (by omega)), ?_⟩
        have HFIN := Lib.hid (args_three (g := W2.heap.size) (g' := (W2.heap.size + 2)) (g'' := (W2.heap.size + 1)) HK.out.2.2.2 (by omega) (by omega) (by omega) (by omega) (by omega) (by omega) HQ.out HK.out.1 HK.out.2.2.1 HK.out.2.1 (HI1.out.below HK.out.2.2.2) (HI2.out.below HK.out.2.2.2) (HI3.out.below HK.out.2.2.2))
        clear HK
        refine chainP_nil (rest_end (by decide) ?_)
        go_wp2
        go_meet
        exact Args3.lift HD.out HFIN.out
    · intro E hE
      go_wp2
      refine ⟨(Below.refl W2.heap.size W2).alloc (Nat.le_refl _) _, ?_⟩
      refine chainP_two ?_ ?_
      · intro E hE
        go_wp2
        refine ⟨(two W2 (.cells #[.int .i64 0, .int .i64 0, .string ⟨#[]⟩, .slice none 0 0] 28 (0, 0)) (.cells #[.int .i64 0, .int .i64 0, .string ⟨#[]⟩, .slice none 0 0] 28 (0, 0))).2.2.2, ?_⟩
        refine chainP_one ?_
        intro E hE
        go_wp2
        have HK := Lib.hid (three W2 (.cells #[.int .i64 0, .int .i64 0, .string ⟨#[]⟩, .slice none 0 0] 28 (0, 0)) (.cells #[.int .i64 0, .int .i64 0, .string ⟨#[]⟩, .slice none 0 0] 28 (0, 0)) (.cells #[.int .i64 0, .int .i64 0, .string ⟨#[]⟩, .slice none 0 0] 28 (0, 0)))
        refine ⟨HK.out.2.2.2, ?_⟩
        refine chainP_one ?_
        intro E hE
        go_wp2_with (refine wpList_store_row rfl 28 (.tmp 3) (.tmp 15) rfl (W2.heap.size + 1) #[.int .i64 x.k, .int .i64 x.n, .string x.s, .slice qa x.args.length qc] rfl rfl _ _ HK.out.2.1 size_term rfl (one4 _ _ _ _ _ _) ?_)
        refine ⟨(below_row HK.out.2.2.2 (by omega)), ?_⟩
        refine chainP_one ?_
        intro E hE
        go_wp2_with (refine wpList_store_row rfl 28 (.tmp 4) (.tmp 19) rfl W2.heap.size #[.int .i64 y.k, .int .i64 y.n, .string y.s, .slice za y.args.length zc] rfl rfl _ _ ((setRow_other _ _ _ _ (by omega)).trans HK.out.1) size_term rfl (one4 _ _ _ _ _ _) ?_)
        refine ⟨(below_row (below_row HK.out.2.2.2 (by omega)) (by omega)), ?_⟩
        refine chainP_one ?_
        intro E hE
        go_wp2_with (refine wpList_store_row rfl 28 (.tmp 5) (.tmp 23) rfl (W2.heap.size + 2) #[.int .i64 z.k, .int .i64 z.n, .string z.s, .slice va z.args.length vc] rfl rfl _ _ ((setRow_other _ _ _ _ (by omega)).trans ((setRow_other _ _ _ _ (by omega)).trans HK.out.2.2.1)) size_term rfl (one4 _ _ _ _ _ _) ?_)
        refine ⟨(below_row (below_row (below_row HK.out.2.2.2 (by omega)) (by omega)) (by omega)), ?_⟩
        have HFIN := Lib.hid (args_three (g := (W2.heap.size + 1)) (g' := W2.heap.size) (g'' := (W2.heap.size + 2)) HK.out.2.2.2 (by omega) (by omega) (by omega) (by omega) (by omega) (by omega) HQ.out HK.out.2.1 HK.out.1 HK.out.2.2.1 (HI1.out.below HK.out.2.2.2) (HI2.out.below HK.out.2.2.2) (HI3.out.below HK.out.2.2.2))
        clear HK
        refine chainP_nil (rest_end (by decide) ?_)
        go_wp2
        go_meet
        exact Args3.lift HD.out HFIN.out
      · intro E hE
        go_wp2
        refine ⟨(two W2 (.cells #[.int .i64 0, .int .i64 0, .string ⟨#[]⟩, .slice none 0 0] 28 (0, 0)) (.cells #[.int .i64 0, .int .i64 0, .string ⟨#[]⟩, .slice none 0 0] 28 (0, 0))).2.2.2, ?_⟩
        refine chainP_one ?_
        intro E hE
        go_wp2
        have HK := Lib.hid (three W2 (.cells #[.int .i64 0, .int .i64 0, .string ⟨#[]⟩, .slice none 0 0] 28 (0, 0)) (.cells #[.int .i64 0, .int .i64 0, .string ⟨#[]⟩, .slice none 0 0] 28 (0, 0)) (.cells #[.int .i64 0, .int .i64 0, .string ⟨#[]⟩, .slice none 0 0] 28 (0, 0)))
        refine ⟨HK.out.2.2.2, ?_⟩
        refine chainP_one ?_
        intro E hE
        go_wp2_with (refine wpList_store_row rfl 28 (.tmp 3) (.tmp 15) rfl (W2.heap.size + 2) #[.int .i64 x.k, .int .i64 x.n, .string x.s, .slice qa x.args.length qc] rfl rfl _ _ HK.out.2.2.1 size_term rfl (one4 _ _ _ _ _ _) ?_)
        refine ⟨(below_row HK.out.2.2.2 (by omega)), ?_⟩
        refine chainP_one ?_
        intro E hE
        go_wp2_with (refine wpList_store_row rfl 28 (.tmp 4) (.tmp 19) rfl W2.heap.size #[.int .i64 y.k, .int .i64 y.n, .string y.s, .slice za y.args.length zc] rfl rfl _ _ ((setRow_other _ _ _ _ (by omega)).trans HK.out.1) size_term rfl (one4 _ _ _ _ _ _) ?_)
        refine ⟨(below_row (below_row HK.out.2.2.2 (by omega)) (by omega)), ?_⟩
        refine chainP_one ?_
        intro E hE
        go_wp2_with (refine wpList_store_row rfl 28 (.tmp 5) (.tmp 23) rfl (W2.heap.size + 1) #[.int .i64 z.k, .int .i64 z.n, .string z.s, .slice va z.args.length vc] rfl rfl _ _ ((setRow_other _ _ _ _ (by omega)).trans ((setRow_other _ _ _ _ (by omega)).trans HK.out.2.1)) size_term rfl (one4 _ _ _ _ _ _) ?_)
        refine ⟨(below_row (below_row (below_row HK.out.2.2.2 (by omega)) (by omega)) (by omega)), ?_⟩
        have HFIN := Lib.hid (args_three (g := (W2.heap.size + 2)) (g' := W2.heap.size) (g'' := (W2.heap.size + 1)) HK.out.2.2.2 (by omega) (by omega) (by omega) (by omega) (by omega) (by omega) HQ.out HK.out.2.2.1 HK.out.1 HK.out.2.1 (HI1.out.below HK.out.2.2.2) (HI2.out.below HK.out.2.2.2) (HI3.out.below HK.out.2.2.2))
        clear HK
        refine chainP_nil (rest_end (by decide) ?_)
        go_wp2
        go_meet
        exact Args3.lift HD.out HFIN.out
    · intro E hE
      go_wp2
      refine ⟨(Below.refl W2.heap.size W2).alloc (Nat.le_refl _) _, ?_⟩
      refine chainP_two ?_ ?_
      · intro E hE
        go_wp2
        refine ⟨(two W2 (.cells #[.int .i64 0, .int .i64 0, .string ⟨#[]⟩, .slice none 0 0] 28 (0, 0)) (.cells #[.int .i64 0, .int .i64 0, .string ⟨#[]⟩, .slice none 0 0] 28 (0, 0))).2.2.2, ?_⟩
        refine chainP_one ?_
        intro E hE
        go_wp2
        have HK := Lib.hid (three W2 (.cells #[.int .i64 0, .int .i64 0, .string ⟨#[]⟩, .slice none 0 0] 28 (0, 0)) (.cells #[.int .i64 0, .int .i64 0, .string ⟨#[]⟩, .slice none 0 0] 28 (0, 0)) (.cells #[.int .i64 0, .int .i64 0, .string ⟨#[]⟩, .slice none 0 0] 28 (0, 0)))
        refine ⟨HK.out.2.2.2, ?_⟩
        refine chainP_one ?_
        intro E hE
        go_wp2_with (refine wpList_store_row rfl 28 (.tmp 3) (.tmp 15) rfl (W2.heap.size + 1) #[.int .i64 x.k, .int .i64 x.n, .string x.s, .slice qa x.args.length qc] rfl rfl _ _ HK.out.2.1 size_term rfl (one4 _ _ _ _ _ _) ?_)
        refine ⟨(below_row HK.out.2.2.2 (by omega)), ?_⟩
        refine chainP_one ?_
        intro E hE
        go_wp2_with (refine wpList_store_row rfl 28 (.tmp 4) (.tmp 19) rfl (W2.heap.size + 2) #[.int .i64 y.k, .int .i64 y.n, .string y.s, .slice za y.args.length zc] rfl rfl _ _ ((setRow_other _ _ _ _ (by omega)).trans HK.out.2.2.1) size_term rfl (one4 _ _ _ _ _ _) ?_)
        refine ⟨(below_row (below_row HK.out.2.2.2 (by omega)) (by omega)), ?_⟩
        refine chainP_one ?_
        intro E hE
        go_wp2_with (refine wpList_store_row rfl 28 (.tmp 5) (.tmp 23) rfl W2.heap.size #[.int .i64 z.k, .int .i64 z.n, .string z.s, .slice va z.args.length vc] rfl rfl _ _ ((setRow_other _ _ _ _ (by omega)).trans ((setRow_other _ _ _ _ (by omega)).trans HK.out.1)) size_term rfl (one4 _ _ _ _ _ _) ?_)
        refine ⟨(below_row (below_row (below_row HK.out.2.2.2 (by omega)) (by omega)) (by omega)), ?_⟩
        have HFIN := Lib.hid (args_three (g := (W2.heap.size + 1)) (g' := (W2.heap.size + 2)) (g'' := W2.heap.size) HK.out.2.2.2 (by omega) (by omega) (by omega) (by omega) (by omega) (by omega) HQ.out HK.out.2.1 HK.out.2.2.1 HK.out.1 (HI1.out.below HK.out.2.2.2) (HI2.out.below HK.out.2.2.2) (HI3.out.below HK.out.2.2.2))
        clear HK
        refine chainP_nil (rest_end (by decide) ?_)
        go_wp2
        go_meet
        exact Args3.lift HD.out HFIN.out
      · intro E hE
        go_wp2
        refine ⟨(two W2 (.cells #[.int .i64 0, .int .i64 0, .string ⟨#[]⟩, .slice none 0 0] 28 (0, 0)) (.cells #[.int .i64 0, .int .i64 0, .string ⟨#[]⟩, .slice none 0 0] 28 (0, 0))).2.2.2, ?_⟩
        refine chainP_one ?_
        intro E hE
        go_wp2
        have HK := Lib.hid (three W2 (.cells #[.int .i64 0, .int .i64 0, .string ⟨#[]⟩, .slice none 0 0] 28 (0, 0)) (.cells #[.int .i64 0, .int .i64 0, .string ⟨#[]⟩, .slice none 0 0] 28 (0, 0)) (.cells #[.int .i64 0, .int .i64 0, .string ⟨#[]⟩, .slice none 0 0] 28 (0, 0)))
        refine ⟨HK.out.2.2.2, ?_⟩
        refine chainP_one ?_
        intro E hE
        go_wp2_with (refine wpList_store_row rfl 28 (.tmp 3) (.tmp 15) rfl (W2.heap.size + 2) #[.int .i64 x.k, .int .i64 x.n, .string x.s, .slice qa x.args.length qc] rfl rfl _ _ HK.out.2.2.1 size_term rfl (one4 _ _ _ _ _ _) ?_)
        refine ⟨(below_row HK.out.2.2.2 (by omega)), ?_⟩
        refine chainP_one ?_
        intro E hE
        go_wp2_with (refine wpList_store_row rfl 28 (.tmp 4) (.tmp 19) rfl (W2.heap.size + 1) #[.int .i64 y.k, .int .i64 y.n, .string y.s, .slice za y.args.length zc] rfl rfl _ _ ((setRow_other _ _ _ _ (by omega)).trans HK.out.2.1) size_term rfl (one4 _ _ _ _ _ _) ?_)
        refine ⟨(below_row (below_row HK.out.2.2.2 (by omega)) (by omega)), ?_⟩
        refine chainP_one ?_
        intro E hE
        go_wp2_with (refine wpList_store_row rfl 28 (.tmp 5) (.tmp 23) rfl W2.heap.size #[.int .i64 z.k, .int .i64 z.n, .string z.s, .slice va z.args.length vc] rfl rfl _ _ ((setRow_other _ _ _ _ (by omega)).trans ((setRow_other _ _ _ _ (by omega)).trans HK.out.1)) size_term rfl (one4 _ _ _ _ _ _) ?_)
        refine ⟨(below_row (below_row (below_row HK.out.2.2.2 (by omega)) (by omega)) (by omega)), ?_⟩
        have HFIN := Lib.hid (args_three (g := (W2.heap.size + 2)) (g' := (W2.heap.size + 1)) (g'' := W2.heap.size) HK.out.2.2.2 (by omega) (by omega) (by omega) (by omega) (by omega) (by omega) HQ.out HK.out.2.2.1 HK.out.2.1 HK.out.1 (HI1.out.below HK.out.2.2.2) (HI2.out.below HK.out.2.2.2) (HI3.out.below HK.out.2.2.2))
        clear HK
        refine chainP_nil (rest_end (by decide) ?_)
        go_wp2
        go_meet
        exact Args3.lift HD.out HFIN.out
  case rest =>
    obtain ⟨b3, b4, b5, rfl, rfl, rfl, ⟨a3, c3, r3, i3⟩, ⟨a4, c4, r4, i4⟩, ⟨a5, c5, r5, i5⟩, hbc⟩ := hcut
    have HR3 := Lib.hid (row_on HR.out hbc)
    have hb3 := HB.out.trans (hbc.mono HB.out.size)
    have hs3 : w.heap.size + 2 ≤ wc.heap.size := by have := HZ.out; have := hbc.size; omega
    have HB3 := Lib.hid hb3
    have HX := Lib.hid (show IsTm wc (fun b => P b ∧ b < w.heap.size ∨ w.heap.size + 2 ≤ b) (.agg #[.int .i64 x.k, .int .i64 x.n, .string x.s, .slice a3 x.args.length c3]) x from (IsTm.mk' i3).imp (fun b hb => Or.inl hb) fun _ _ _ => rfl)
    have HY := Lib.hid (show IsTm wc (fun b => P b ∧ b < w.heap.size ∨ w.heap.size + 2 ≤ b) (.agg #[.int .i64 y.k, .int .i64 y.n, .string y.s, .slice a4 y.args.length c4]) y from (IsTm.mk' i4).imp (fun b hb => Or.inl hb) fun _ _ _ => rfl)
    have HZZ := Lib.hid (show IsTm wc (fun b => P b ∧ b < w.heap.size ∨ w.heap.size + 2 ≤ b) (.agg #[.int .i64 z.k, .int .i64 z.n, .string z.s, .slice a5 z.args.length c5]) z from (IsTm.mk' i5).imp (fun b hb => Or.inl hb) fun _ _ _ => rfl)
    have R5 := Lib.hid r5
    obtain ⟨t0, t1, t2, t3⟩ := row4 r5
    have hl5 := (Array.getElem?_eq_some_iff.1 r5).1
    have HT3 := Lib.hid (HTB.out.on hb3)
    have R3 := Lib.hid r3
    have R4 := Lib.hid r4
    obtain ⟨y0, y1, y2, y3⟩ := row4 r3
    obtain ⟨z0, z1, z2, z3⟩ := row4 r4
    have hl3 := (Array.getElem?_eq_some_iff.1 r3).1
    have hl4 := (Array.getElem?_eq_some_iff.1 r4).1
    clear i3 i4 HR HC HZ H HB hbc x0 hb3 r3 r4 HTB i5 r5
    have HX3 := Lib.hid HX.out
    have HY3 := Lib.hid HY.out
    have HZ3 := Lib.hid HZZ.out
    have RX3 := Lib.hid R3.out
    have RY3 := Lib.hid R4.out
    have RZ3 := Lib.hid R5.out
    clear HX HY HZZ R3 R4 R5 hl3 hl4 hl5
    go_wp2_with fail
    refine (tx_nameOf x _ _ _ HX3.out HF.out.1 HT3.out).mono ?_
    rintro e5 w5 ⟨rfl, hb5⟩
    have HR5 := Lib.hid (row_on HR3.out hb5)
    have HB5 := Lib.hid (HB3.out.trans (hb5.mono HB3.out.size))
    have hs5 : w.heap.size + 2 ≤ w5.heap.size := by have := hb5.size; omega
    have HX5 := Lib.hid (HX3.out.below hb5)
    have HY5 := Lib.hid (HY3.out.below hb5)
    have HZ5 := Lib.hid (HZ3.out.below hb5)
    have HT5 := Lib.hid (HT3.out.on hb5)
    have RX5 := Lib.hid (row_on RX3.out hb5)
    have RY5 := Lib.hid (row_on RY3.out hb5)
    have RZ5 := Lib.hid (row_on RZ3.out hb5)
    clear y0 y1 y2 y3 z0 z1 z2 z3 t0 t1 t2 t3
    obtain ⟨y0, y1, y2, y3⟩ := row4 RX5.out
    obtain ⟨z0, z1, z2, z3⟩ := row4 RY5.out
    obtain ⟨t0, t1, t2, t3⟩ := row4 RZ5.out
    clear hb5 HR3 HB3 hs3 HX3 HY3 HZ3 HT3 RX3 RY3 RZ3
    obtain ⟨sx, hsx⟩ : ∃ s, s = (nameT x).getD ⟨#[]⟩ := ⟨_, rfl⟩
    obtain ⟨ox, hox⟩ : ∃ s, s = (nameT x).isSome := ⟨_, rfl⟩
    rw [← hsx, ← hox]
    have HSX := Lib.hid hsx
    have HOX := Lib.hid hox
    clear hsx hox
    go_wp2_with fail
    refine (tx_nameOf y _ _ _ HY5.out HF.out.2.1 HT5.out).mono ?_
    rintro e6 w6 ⟨rfl, hb6⟩
    have HR6 := Lib.hid (row_on HR5.out hb6)
    have HB6 := Lib.hid (HB5.out.trans (hb6.mono HB5.out.size))
    have hs6 : w.heap.size + 2 ≤ w6.heap.size := by have := hb6.size; omega
    have HX6 := Lib.hid (HX5.out.below hb6)
    have HY6 := Lib.hid (HY5.out.below hb6)
    have HZ6 := Lib.hid (HZ5.out.below hb6)
    have HT6 := Lib.hid (HT5.out.on hb6)
    have RX6 := Lib.hid (row_on RX5.out hb6)
    have RY6 := Lib.hid (row_on RY5.out hb6)
    have RZ6 := Lib.hid (row_on RZ5.out hb6)
    clear y0 y1 y2 y3 z0 z1 z2 z3 t0 t1 t2 t3
    obtain ⟨y0, y1, y2, y3⟩ := row4 RX6.out
    obtain ⟨z0, z1, z2, z3⟩ := row4 RY6.out
    obtain ⟨t0, t1, t2, t3⟩ := row4 RZ6.out
    clear hb6 HR5 HB5 hs5 HX5 HY5 HZ5 HT5 RX5 RY5 RZ5
    obtain ⟨sy, hsy⟩ : ∃ s, s = (nameT y).getD ⟨#[]⟩ := ⟨_, rfl⟩
    obtain ⟨oy, hoy⟩ : ∃ s, s = (nameT y).isSome := ⟨_, rfl⟩
    rw [← hsy, ← hoy]
    have HSY := Lib.hid hsy
    have HOY := Lib.hid hoy
    clear hsy hoy
    go_wp2_with fail
    refine (tx_nameOf z _ _ _ HZ6.out HF.out.2.2 HT6.out).mono ?_
    rintro e7 w7 ⟨rfl, hb7⟩
    have HR7 := Lib.hid (row_on HR6.out hb7)
    have HB7 := Lib.hid (HB6.out.trans (hb7.mono HB6.out.size))
    have hs7 : w.heap.size + 2 ≤ w7.heap.size := by have := hb7.size; omega
    have HX7 := Lib.hid (HX6.out.below hb7)
    have HY7 := Lib.hid (HY6.out.below hb7)
    have HZ7 := Lib.hid (HZ6.out.below hb7)
    have HT7 := Lib.hid (HT6.out.on hb7)
    have RX7 := Lib.hid (row_on RX6.out hb7)
    have RY7 := Lib.hid (row_on RY6.out hb7)
    have RZ7 := Lib.hid (row_on RZ6.out hb7)
    clear y0 y1 y2 y3 z0 z1 z2 z3 t0 t1 t2 t3
    obtain ⟨y0, y1, y2, y3⟩ := row4 RX7.out
    obtain ⟨z0, z1, z2, z3⟩ := row4 RY7.out
    obtain ⟨t0, t1, t2, t3⟩ := row4 RZ7.out
    clear hb7 HR6 HB6 hs6 HX6 HY6 HZ6 HT6 RX6 RY6 RZ6
    obtain ⟨sz, hsz⟩ : ∃ s, s = (nameT z).getD ⟨#[]⟩ := ⟨_, rfl⟩
    obtain ⟨oz, hoz⟩ : ∃ s, s = (nameT z).isSome := ⟨_, rfl⟩
    rw [← hsz, ← hoz]
    have HSZ := Lib.hid hsz
    have HOZ := Lib.hid hoz
    clear hsz hoz
    by_cases hv : x.k = 1 ∨ y.k = 1
    · have HK := Lib.hid hv
      by_cases h1 : x.k = 1
      · have c1 : (x.k == 1) = true := by rw [h1]; rfl
        clear hv h1
        have HDD := Lib.hid (show concatD x y z = .wr (formalE 12 ⟨#[]⟩ x) by unfold concatD; rw [if_pos HK.out])
        go_wp2_with fail
        refine (tx_wrong 12 ⟨#[]⟩ x _ (fun b => P b ∧ b < w.heap.size ∨ w.heap.size + 2 ≤ b) _ (by omega) HX7.out).mono ?_
        rintro e9 w9 ⟨v9, rfl, hd9, hb9⟩
        obtain ⟨cb, u1, u2, u3, n1, k1, n2, k2, n3, k3, cx, cy, cs, rfl⟩ := hd9.cells
        have HD9 := Lib.hid (hd9.imp (P' := fun b => P b ∧ b < w.heap.size ∨ w.heap.size + 2 ≤ b) (fun b hb => by rcases hb with hb | hb; (· exact hb); (· exact Or.inr (by omega))) (Nat.le_refl _) (fun _ _ _ => rfl))
        have HR9 := Lib.hid (row_on HR7.out hb9)
        have HB9 := Lib.hid (HB7.out.trans (hb9.mono HB7.out.size))
        clear hd9 hb9
        go_wp2_with (with_reducible show wpList _ _ _ (⟨none, .store _ (.tmp 2) _, _, _, _, _⟩ :: _) _ _
                     go_must (refine wpList_store_row rfl 35 (.tmp 2) (.tmp 49) rfl (w.heap.size + 1) #[.bool cb, .slice u1 n1 k1, .slice u2 n2 k2, .int .i64 cx, .int .i64 cy, .string cs, .slice u3 n3 k3] rfl rfl _ _ HR9.out size_did rfl (by simp [Value.oneCell']) ?_))
        have hz := setRow_heap w9 (w.heap.size + 1) _ (#[.bool cb, .slice u1 n1 k1, .slice u2 n2 k2, .int .i64 cx, .int .i64 cy, .string cs, .slice u3 n3 k3] : Array Value) _ _ HR9.out
        rw [HDD.out]
        exact bodyPost_ret (v := .agg #[.bool cb, .slice u1 n1 k1, .slice u2 n2 k2, .int .i64 cx, .int .i64 cy, .string cs, .slice u3 n3 k3]) (results_cell_row Tryd.results29 _ _ (w.heap.size + 1) _ _ _ _ rfl hz Tryd.underlying35 rfl (by kernel_rfl)) rfl ⟨_, rfl, HD9.out.imp (fun _ h => h) (by simp) (fun b hb _ => setRow_other w9 (w.heap.size + 1) b _ (by rcases hb with h | h; (· have := h.2; omega); (· omega))), below_row HB9.out (by omega)⟩
      · have c1 : (x.k == 1) = false := by simpa using h1
        have c2 : (y.k == 1) = true := by rw [hv.resolve_left h1]; rfl
        clear hv h1
        have HDD := Lib.hid (show concatD x y z = .wr (formalE 12 ⟨#[]⟩ x) by unfold concatD; rw [if_pos HK.out])
        go_wp2_with fail
        refine (tx_wrong 12 ⟨#[]⟩ x _ (fun b => P b ∧ b < w.heap.size ∨ w.heap.size + 2 ≤ b) _ (by omega) HX7.out).mono ?_
        rintro e9 w9 ⟨v9, rfl, hd9, hb9⟩
        obtain ⟨cb, u1, u2, u3, n1, k1, n2, k2, n3, k3, cx, cy, cs, rfl⟩ := hd9.cells
        have HD9 := Lib.hid (hd9.imp (P' := fun b => P b ∧ b < w.heap.size ∨ w.heap.size + 2 ≤ b) (fun b hb => by rcases hb with hb | hb; (· exact hb); (· exact Or.inr (by omega))) (Nat.le_refl _) (fun _ _ _ => rfl))
        have HR9 := Lib.hid (row_on HR7.out hb9)
        have HB9 := Lib.hid (HB7.out.trans (hb9.mono HB7.out.size))
        clear hd9 hb9
        go_wp2_with (with_reducible show wpList _ _ _ (⟨none, .store _ (.tmp 2) _, _, _, _, _⟩ :: _) _ _
                     go_must (refine wpList_store_row rfl 35 (.tmp 2) (.tmp 49) rfl (w.heap.size + 1) #[.bool cb, .slice u1 n1 k1, .slice u2 n2 k2, .int .i64 cx, .int .i64 cy, .string cs, .slice u3 n3 k3] rfl rfl _ _ HR9.out size_did rfl (by simp [Value.oneCell']) ?_))
        have hz := setRow_heap w9 (w.heap.size + 1) _ (#[.bool cb, .slice u1 n1 k1, .slice u2 n2 k2, .int .i64 cx, .int .i64 cy, .string cs, .slice u3 n3 k3] : Array Value) _ _ HR9.out
        rw [HDD.out]
        exact bodyPost_ret (v := .agg #[.bool cb, .slice u1 n1 k1, .slice u2 n2 k2, .int .i64 cx, .int .i64 cy, .string cs, .slice u3 n3 k3]) (results_cell_row Tryd.results29 _ _ (w.heap.size + 1) _ _ _ _ rfl hz Tryd.underlying35 rfl (by kernel_rfl)) rfl ⟨_, rfl, HD9.out.imp (fun _ h => h) (by simp) (fun b hb _ => setRow_other w9 (w.heap.size + 1) b _ (by rcases hb with h | h; (· have := h.2; omega); (· omega))), below_row HB9.out (by omega)⟩
    · have HK := Lib.hid hv
      have c1 : (x.k == 1) = false := by simpa using fun h => hv (.inl h)
      have c2 : (y.k == 1) = false := by simpa using fun h => hv (.inr h)
      clear hv
      cases ox with
      | false =>
        have HDD := Lib.hid (show concatD x y z = .wr (formalE 13 (⟨#[97, 116, 111, 109, 105, 99]⟩ : ByteArray) x) from by unfold concatD; rw [if_neg HK.out]; have hn : nameT x = none := (by simpa using HOX.out.symm); rw [hn])
        go_wp2_with fail
        refine (tx_wrong 13 (⟨#[97, 116, 111, 109, 105, 99]⟩ : ByteArray) x _ (fun b => P b ∧ b < w.heap.size ∨ w.heap.size + 2 ≤ b) _ (by omega) HX7.out).mono ?_
        rintro e9 w9 ⟨v9, rfl, hd9, hb9⟩
        obtain ⟨cb, u1, u2, u3, n1, k1, n2, k2, n3, k3, cx, cy, cs, rfl⟩ := hd9.cells
        have HD9 := Lib.hid (hd9.imp (P' := fun b => P b ∧ b < w.heap.size ∨ w.heap.size + 2 ≤ b) (fun b hb => by rcases hb with hb | hb; (· exact hb); (· exact Or.inr (by omega))) (Nat.le_refl _) (fun _ _ _ => rfl))
        have HR9 := Lib.hid (row_on HR7.out hb9)
        have HB9 := Lib.hid (HB7.out.trans (hb9.mono HB7.out.size))
        clear hd9 hb9
        go_wp2_with (with_reducible show wpList _ _ _ (⟨none, .store _ (.tmp 2) _, _, _, _, _⟩ :: _) _ _
                     go_must (refine wpList_store_row rfl 35 (.tmp 2) (.tmp 54) rfl (w.heap.size + 1) #[.bool cb, .slice u1 n1 k1, .slice u2 n2 k2, .int .i64 cx, .int .i64 cy, .string cs, .slice u3 n3 k3] rfl rfl _ _ HR9.out size_did rfl (by simp [Value.oneCell']) ?_))
        have hz := setRow_heap w9 (w.heap.size + 1) _ (#[.bool cb, .slice u1 n1 k1, .slice u2 n2 k2, .int .i64 cx, .int .i64 cy, .string cs, .slice u3 n3 k3] : Array Value) _ _ HR9.out
        rw [HDD.out]
        exact bodyPost_ret (v := .agg #[.bool cb, .slice u1 n1 k1, .slice u2 n2 k2, .int .i64 cx, .int .i64 cy, .string cs, .slice u3 n3 k3]) (results_cell_row Tryd.results29 _ _ (w.heap.size + 1) _ _ _ _ rfl hz Tryd.underlying35 rfl (by kernel_rfl)) rfl ⟨_, rfl, HD9.out.imp (fun _ h => h) (by simp) (fun b hb _ => setRow_other w9 (w.heap.size + 1) b _ (by rcases hb with h | h; (· have := h.2; omega); (· omega))), below_row HB9.out (by omega)⟩
      | true =>
      cases oy with
      | false =>
        have HDD := Lib.hid (show concatD x y z = .wr (formalE 13 (⟨#[97, 116, 111, 109, 105, 99]⟩ : ByteArray) y) from by unfold concatD; rw [if_neg HK.out]; have hn : nameT y = none := (by simpa using HOY.out.symm); obtain ⟨q, hq⟩ := Option.isSome_iff_exists.1 HOX.out.symm; rw [hn, hq])
        go_wp2_with fail
        refine (tx_wrong 13 (⟨#[97, 116, 111, 109, 105, 99]⟩ : ByteArray) y _ (fun b => P b ∧ b < w.heap.size ∨ w.heap.size + 2 ≤ b) _ (by omega) HY7.out).mono ?_
        rintro e9 w9 ⟨v9, rfl, hd9, hb9⟩
        obtain ⟨cb, u1, u2, u3, n1, k1, n2, k2, n3, k3, cx, cy, cs, rfl⟩ := hd9.cells
        have HD9 := Lib.hid (hd9.imp (P' := fun b => P b ∧ b < w.heap.size ∨ w.heap.size + 2 ≤ b) (fun b hb => by rcases hb with hb | hb; (· exact hb); (· exact Or.inr (by omega))) (Nat.le_refl _) (fun _ _ _ => rfl))
        have HR9 := Lib.hid (row_on HR7.out hb9)
        have HB9 := Lib.hid (HB7.out.trans (hb9.mono HB7.out.size))
        clear hd9 hb9
        go_wp2_with (with_reducible show wpList _ _ _ (⟨none, .store _ (.tmp 2) _, _, _, _, _⟩ :: _) _ _
                     go_must (refine wpList_store_row rfl 35 (.tmp 2) (.tmp 59) rfl (w.heap.size + 1) #[.bool cb, .slice u1 n1 k1, .slice u2 n2 k2, .int .i64 cx, .int .i64 cy, .string cs, .slice u3 n3 k3] rfl rfl _ _ HR9.out size_did rfl (by simp [Value.oneCell']) ?_))
        have hz := setRow_heap w9 (w.heap.size + 1) _ (#[.bool cb, .slice u1 n1 k1, .slice u2 n2 k2, .int .i64 cx, .int .i64 cy, .string cs, .slice u3 n3 k3] : Array Value) _ _ HR9.out
        rw [HDD.out]
        exact bodyPost_ret (v := .agg #[.bool cb, .slice u1 n1 k1, .slice u2 n2 k2, .int .i64 cx, .int .i64 cy, .string cs, .slice u3 n3 k3]) (results_cell_row Tryd.results29 _ _ (w.heap.size + 1) _ _ _ _ rfl hz Tryd.underlying35 rfl (by kernel_rfl)) rfl ⟨_, rfl, HD9.out.imp (fun _ h => h) (by simp) (fun b hb _ => setRow_other w9 (w.heap.size + 1) b _ (by rcases hb with h | h; (· have := h.2; omega); (· omega))), below_row HB9.out (by omega)⟩
      | true =>
      by_cases hz1 : z.k = 1
      · have c3 : (z.k != 1) = false := by rw [hz1]; rfl
        have HG := Lib.hid (show ¬ (z.k ≠ 1 ∧ nameT z = none) from fun h => h.1 hz1)
        clear hz1
        have hlx : sx.size ≤ 100000 := by
          obtain ⟨q, hq⟩ := Option.isSome_iff_exists.1 HOX.out.symm
          rw [HSX.out, hq]; exact name_size hq HF.out.1 hs1
        have hly : sy.size ≤ 100000 := by
          obtain ⟨q, hq⟩ := Option.isSome_iff_exists.1 HOY.out.symm
          rw [HSY.out, hq]; exact name_size hq HF.out.2.1 hs2
        have hwr : wrap64 ((sx.size : Int) + (sy.size : Int)) = (sx.size : Int) + (sy.size : Int) := Num.wrap_in (by unfold Num.Fit; omega)
        have HCD := Lib.hid (show concatD x y z = if 1000 < sx.size + sy.size then .wr (formalE 3 (⟨#[109, 97, 120, 95, 97, 116, 111, 109, 95, 108, 101, 110, 103, 116, 104]⟩ : ByteArray) z) else .is 2 (atomT (sx ++ sy)) from by
          obtain ⟨q, hq⟩ := Option.isSome_iff_exists.1 HOX.out.symm
          obtain ⟨q', hq'⟩ := Option.isSome_iff_exists.1 HOY.out.symm
          have h1 := HSX.out
          have h2 := HSY.out
          rw [hq] at h1
          rw [hq'] at h2
          unfold concatD; rw [if_neg HK.out, hq, hq']; simp only []; rw [if_neg HG.out]
          rw [show sx = q from h1, show sy = q' from h2])
        by_cases hlong : 1000 < sx.size + sy.size
        · have c7 : decide (1000 < (sx.size : Int) + (sy.size : Int)) = true := by simp; omega
          have c8 : decide (1000 < sx.size + sy.size) = true := by simpa using hlong
          have HLG := Lib.hid hlong
          clear hlong
          have HDD := Lib.hid (show concatD x y z = .wr (formalE 3 (⟨#[109, 97, 120, 95, 97, 116, 111, 109, 95, 108, 101, 110, 103, 116, 104]⟩ : ByteArray) z) by rw [HCD.out, if_pos HLG.out])
          go_wp2_with fail
          refine (tx_wrong 3 (⟨#[109, 97, 120, 95, 97, 116, 111, 109, 95, 108, 101, 110, 103, 116, 104]⟩ : ByteArray) z _ (fun b => P b ∧ b < w.heap.size ∨ w.heap.size + 2 ≤ b) _ (by omega) HZ7.out).mono ?_
          rintro e9 w9 ⟨v9, rfl, hd9, hb9⟩
          obtain ⟨cb, u1, u2, u3, n1, k1, n2, k2, n3, k3, cx, cy, cs, rfl⟩ := hd9.cells
          have HD9 := Lib.hid (hd9.imp (P' := fun b => P b ∧ b < w.heap.size ∨ w.heap.size + 2 ≤ b) (fun b hb => by rcases hb with hb | hb; (· exact hb); (· exact Or.inr (by omega))) (Nat.le_refl _) (fun _ _ _ => rfl))
          have HR9 := Lib.hid (row_on HR7.out hb9)
          have HB9 := Lib.hid (HB7.out.trans (hb9.mono HB7.out.size))
          clear hd9 hb9
          go_wp2_with (with_reducible show wpList _ _ _ (⟨none, .store _ (.tmp 2) _, _, _, _, _⟩ :: _) _ _
                       go_must (refine wpList_store_row rfl 35 (.tmp 2) (.tmp 78) rfl (w.heap.size + 1) #[.bool cb, .slice u1 n1 k1, .slice u2 n2 k2, .int .i64 cx, .int .i64 cy, .string cs, .slice u3 n3 k3] rfl rfl _ _ HR9.out size_did rfl (by simp [Value.oneCell']) ?_))
          have hz := setRow_heap w9 (w.heap.size + 1) _ (#[.bool cb, .slice u1 n1 k1, .slice u2 n2 k2, .int .i64 cx, .int .i64 cy, .string cs, .slice u3 n3 k3] : Array Value) _ _ HR9.out
          rw [HDD.out]
          exact bodyPost_ret (v := .agg #[.bool cb, .slice u1 n1 k1, .slice u2 n2 k2, .int .i64 cx, .int .i64 cy, .string cs, .slice u3 n3 k3]) (results_cell_row Tryd.results29 _ _ (w.heap.size + 1) _ _ _ _ rfl hz Tryd.underlying35 rfl (by kernel_rfl)) rfl ⟨_, rfl, HD9.out.imp (fun _ h => h) (by simp) (fun b hb _ => setRow_other w9 (w.heap.size + 1) b _ (by rcases hb with h | h; (· have := h.2; omega); (· omega))), below_row HB9.out (by omega)⟩
        · have c7 : decide (1000 < (sx.size : Int) + (sy.size : Int)) = false := by simp; omega
          have c8 : decide (1000 < sx.size + sy.size) = false := by simpa using hlong
          have HLG := Lib.hid hlong
          have HDD := Lib.hid (show concatD x y z = .is 2 (atomT (sx ++ sy)) by rw [HCD.out, if_neg HLG.out])
          clear hlong
          go_wp2_with fail
          refine (tx_atom (sx ++ sy) _).mono ?_
          rintro e8 w8 ⟨rfl, hb8⟩
          have HR8 := Lib.hid (row_on HR7.out hb8)
          have HB8 := Lib.hid (HB7.out.trans (hb8.mono HB7.out.size))
          have hs8 : w.heap.size + 2 ≤ w8.heap.size := by have := hb8.size; omega
          clear hb8
          go_wp2_with fail
          refine (tx_is 2 (atomT (sx ++ sy)) _ (fun b => P b ∧ b < w.heap.size ∨ w.heap.size + 2 ≤ b) _ (atom_is _ _ _)).mono ?_
          rintro e9 w9 ⟨v9, rfl, hd9, hb9⟩
          obtain ⟨cb, u1, u2, u3, n1, k1, n2, k2, n3, k3, cx, cy, cs, rfl⟩ := hd9.cells
          have HD9 := Lib.hid (hd9.imp (P' := fun b => P b ∧ b < w.heap.size ∨ w.heap.size + 2 ≤ b) (fun b hb => by rcases hb with hb | hb; (· exact hb); (· exact Or.inr (by omega))) (Nat.le_refl _) (fun _ _ _ => rfl))
          have HR9 := Lib.hid (row_on HR8.out hb9)
          have HB9 := Lib.hid (HB8.out.trans (hb9.mono HB8.out.size))
          clear hd9 hb9
          go_wp2_with (with_reducible show wpList _ _ _ (⟨none, .store _ (.tmp 2) _, _, _, _, _⟩ :: _) _ _
                       go_must (refine wpList_store_row rfl 35 (.tmp 2) (.tmp 83) rfl (w.heap.size + 1) #[.bool cb, .slice u1 n1 k1, .slice u2 n2 k2, .int .i64 cx, .int .i64 cy, .string cs, .slice u3 n3 k3] rfl rfl _ _ HR9.out size_did rfl (by simp [Value.oneCell']) ?_))
          have hz := setRow_heap w9 (w.heap.size + 1) _ (#[.bool cb, .slice u1 n1 k1, .slice u2 n2 k2, .int .i64 cx, .int .i64 cy, .string cs, .slice u3 n3 k3] : Array Value) _ _ HR9.out
          rw [HDD.out]
          exact bodyPost_ret (v := .agg #[.bool cb, .slice u1 n1 k1, .slice u2 n2 k2, .int .i64 cx, .int .i64 cy, .string cs, .slice u3 n3 k3]) (results_cell_row Tryd.results29 _ _ (w.heap.size + 1) _ _ _ _ rfl hz Tryd.underlying35 rfl (by kernel_rfl)) rfl ⟨_, rfl, HD9.out.imp (fun _ h => h) (by simp) (fun b hb _ => setRow_other w9 (w.heap.size + 1) b _ (by rcases hb with h | h; (· have := h.2; omega); (· omega))), below_row HB9.out (by omega)⟩
      · have c3 : (z.k != 1) = true := by simpa using hz1
        cases oz with
        | true =>
          have HG := Lib.hid (show ¬ (z.k ≠ 1 ∧ nameT z = none) from fun h => by have h1 := HOZ.out; rw [h.2] at h1; exact absurd h1 (by simp))
          clear hz1
          have hlx : sx.size ≤ 100000 := by
            obtain ⟨q, hq⟩ := Option.isSome_iff_exists.1 HOX.out.symm
            rw [HSX.out, hq]; exact name_size hq HF.out.1 hs1
          have hly : sy.size ≤ 100000 := by
            obtain ⟨q, hq⟩ := Option.isSome_iff_exists.1 HOY.out.symm
            rw [HSY.out, hq]; exact name_size hq HF.out.2.1 hs2
          have hwr : wrap64 ((sx.size : Int) + (sy.size : Int)) = (sx.size : Int) + (sy.size : Int) := Num.wrap_in (by unfold Num.Fit; omega)
          have HCD := Lib.hid (show concatD x y z = if 1000 < sx.size + sy.size then .wr (formalE 3 (⟨#[109, 97, 120, 95, 97, 116, 111, 109, 95, 108, 101, 110, 103, 116, 104]⟩ : ByteArray) z) else .is 2 (atomT (sx ++ sy)) from by
            obtain ⟨q, hq⟩ := Option.isSome_iff_exists.1 HOX.out.symm
            obtain ⟨q', hq'⟩ := Option.isSome_iff_exists.1 HOY.out.symm
            have h1 := HSX.out
            have h2 := HSY.out
            rw [hq] at h1
            rw [hq'] at h2
            unfold concatD; rw [if_neg HK.out, hq, hq']; simp only []; rw [if_neg HG.out]
            rw [show sx = q from h1, show sy = q' from h2])
          by_cases hlong : 1000 < sx.size + sy.size
          · have c7 : decide (1000 < (sx.size : Int) + (sy.size : Int)) = true := by simp; omega
            have c8 : decide (1000 < sx.size + sy.size) = true := by simpa using hlong
            have HLG := Lib.hid hlong
            clear hlong
            have HDD := Lib.hid (show concatD x y z = .wr (formalE 3 (⟨#[109, 97, 120, 95, 97, 116, 111, 109, 95, 108, 101, 110, 103, 116, 104]⟩ : ByteArray) z) by rw [HCD.out, if_pos HLG.out])
            go_wp2_with fail
            refine (tx_wrong 3 (⟨#[109, 97, 120, 95, 97, 116, 111, 109, 95, 108, 101, 110, 103, 116, 104]⟩ : ByteArray) z _ (fun b => P b ∧ b < w.heap.size ∨ w.heap.size + 2 ≤ b) _ (by omega) HZ7.out).mono ?_
            rintro e9 w9 ⟨v9, rfl, hd9, hb9⟩
            obtain ⟨cb, u1, u2, u3, n1, k1, n2, k2, n3, k3, cx, cy, cs, rfl⟩ := hd9.cells
            have HD9 := Lib.hid (hd9.imp (P' := fun b => P b ∧ b < w.heap.size ∨ w.heap.size + 2 ≤ b) (fun b hb => by rcases hb with hb | hb; (· exact hb); (· exact Or.inr (by omega))) (Nat.le_refl _) (fun _ _ _ => rfl))
            have HR9 := Lib.hid (row_on HR7.out hb9)
            have HB9 := Lib.hid (HB7.out.trans (hb9.mono HB7.out.size))
            clear hd9 hb9
            go_wp2_with (with_reducible show wpList _ _ _ (⟨none, .store _ (.tmp 2) _, _, _, _, _⟩ :: _) _ _
                         go_must (refine wpList_store_row rfl 35 (.tmp 2) (.tmp 78) rfl (w.heap.size + 1) #[.bool cb, .slice u1 n1 k1, .slice u2 n2 k2, .int .i64 cx, .int .i64 cy, .string cs, .slice u3 n3 k3] rfl rfl _ _ HR9.out size_did rfl (by simp [Value.oneCell']) ?_))
            have hz := setRow_heap w9 (w.heap.size + 1) _ (#[.bool cb, .slice u1 n1 k1, .slice u2 n2 k2, .int .i64 cx, .int .i64 cy, .string cs, .slice u3 n3 k3] : Array Value) _ _ HR9.out
            rw [HDD.out]
            exact bodyPost_ret (v := .agg #[.bool cb, .slice u1 n1 k1, .slice u2 n2 k2, .int .i64 cx, .int .i64 cy, .string cs, .slice u3 n3 k3]) (results_cell_row Tryd.results29 _ _ (w.heap.size + 1) _ _ _ _ rfl hz Tryd.underlying35 rfl (by kernel_rfl)) rfl ⟨_, rfl, HD9.out.imp (fun _ h => h) (by simp) (fun b hb _ => setRow_other w9 (w.heap.size + 1) b _ (by rcases hb with h | h; (· have := h.2; omega); (· omega))), below_row HB9.out (by omega)⟩
          · have c7 : decide (1000 < (sx.size : Int) + (sy.size : Int)) = false := by simp; omega
            have c8 : decide (1000 < sx.size + sy.size) = false := by simpa using hlong
            have HLG := Lib.hid hlong
            have HDD := Lib.hid (show concatD x y z = .is 2 (atomT (sx ++ sy)) by rw [HCD.out, if_neg HLG.out])
            clear hlong
            go_wp2_with fail
            refine (tx_atom (sx ++ sy) _).mono ?_
            rintro e8 w8 ⟨rfl, hb8⟩
            have HR8 := Lib.hid (row_on HR7.out hb8)
            have HB8 := Lib.hid (HB7.out.trans (hb8.mono HB7.out.size))
            have hs8 : w.heap.size + 2 ≤ w8.heap.size := by have := hb8.size; omega
            clear hb8
            go_wp2_with fail
            refine (tx_is 2 (atomT (sx ++ sy)) _ (fun b => P b ∧ b < w.heap.size ∨ w.heap.size + 2 ≤ b) _ (atom_is _ _ _)).mono ?_
            rintro e9 w9 ⟨v9, rfl, hd9, hb9⟩
            obtain ⟨cb, u1, u2, u3, n1, k1, n2, k2, n3, k3, cx, cy, cs, rfl⟩ := hd9.cells
            have HD9 := Lib.hid (hd9.imp (P' := fun b => P b ∧ b < w.heap.size ∨ w.heap.size + 2 ≤ b) (fun b hb => by rcases hb with hb | hb; (· exact hb); (· exact Or.inr (by omega))) (Nat.le_refl _) (fun _ _ _ => rfl))
            have HR9 := Lib.hid (row_on HR8.out hb9)
            have HB9 := Lib.hid (HB8.out.trans (hb9.mono HB8.out.size))
            clear hd9 hb9
            go_wp2_with (with_reducible show wpList _ _ _ (⟨none, .store _ (.tmp 2) _, _, _, _, _⟩ :: _) _ _
                         go_must (refine wpList_store_row rfl 35 (.tmp 2) (.tmp 83) rfl (w.heap.size + 1) #[.bool cb, .slice u1 n1 k1, .slice u2 n2 k2, .int .i64 cx, .int .i64 cy, .string cs, .slice u3 n3 k3] rfl rfl _ _ HR9.out size_did rfl (by simp [Value.oneCell']) ?_))
            have hz := setRow_heap w9 (w.heap.size + 1) _ (#[.bool cb, .slice u1 n1 k1, .slice u2 n2 k2, .int .i64 cx, .int .i64 cy, .string cs, .slice u3 n3 k3] : Array Value) _ _ HR9.out
            rw [HDD.out]
            exact bodyPost_ret (v := .agg #[.bool cb, .slice u1 n1 k1, .slice u2 n2 k2, .int .i64 cx, .int .i64 cy, .string cs, .slice u3 n3 k3]) (results_cell_row Tryd.results29 _ _ (w.heap.size + 1) _ _ _ _ rfl hz Tryd.underlying35 rfl (by kernel_rfl)) rfl ⟨_, rfl, HD9.out.imp (fun _ h => h) (by simp) (fun b hb _ => setRow_other w9 (w.heap.size + 1) b _ (by rcases hb with h | h; (· have := h.2; omega); (· omega))), below_row HB9.out (by omega)⟩
        | false =>
          have HK1 := Lib.hid hz1
          clear hz1
          have HDD := Lib.hid (show concatD x y z = .wr (formalE 13 (⟨#[97, 116, 111, 109, 105, 99]⟩ : ByteArray) z) from by unfold concatD; rw [if_neg HK.out]; have hn : nameT z = none := (by simpa using HOZ.out.symm); obtain ⟨q, hq⟩ := Option.isSome_iff_exists.1 HOX.out.symm; obtain ⟨q2, hq2⟩ := Option.isSome_iff_exists.1 HOY.out.symm; rw [hq, hq2]; simp only []; rw [if_pos ⟨HK1.out, hn⟩])
          go_wp2_with fail
          refine (tx_wrong 13 (⟨#[97, 116, 111, 109, 105, 99]⟩ : ByteArray) z _ (fun b => P b ∧ b < w.heap.size ∨ w.heap.size + 2 ≤ b) _ (by omega) HZ7.out).mono ?_
          rintro e9 w9 ⟨v9, rfl, hd9, hb9⟩
          obtain ⟨cb, u1, u2, u3, n1, k1, n2, k2, n3, k3, cx, cy, cs, rfl⟩ := hd9.cells
          have HD9 := Lib.hid (hd9.imp (P' := fun b => P b ∧ b < w.heap.size ∨ w.heap.size + 2 ≤ b) (fun b hb => by rcases hb with hb | hb; (· exact hb); (· exact Or.inr (by omega))) (Nat.le_refl _) (fun _ _ _ => rfl))
          have HR9 := Lib.hid (row_on HR7.out hb9)
          have HB9 := Lib.hid (HB7.out.trans (hb9.mono HB7.out.size))
          clear hd9 hb9
          go_wp2_with (with_reducible show wpList _ _ _ (⟨none, .store _ (.tmp 2) _, _, _, _, _⟩ :: _) _ _
                       go_must (refine wpList_store_row rfl 35 (.tmp 2) (.tmp 69) rfl (w.heap.size + 1) #[.bool cb, .slice u1 n1 k1, .slice u2 n2 k2, .int .i64 cx, .int .i64 cy, .string cs, .slice u3 n3 k3] rfl rfl _ _ HR9.out size_did rfl (by simp [Value.oneCell']) ?_))
          have hz := setRow_heap w9 (w.heap.size + 1) _ (#[.bool cb, .slice u1 n1 k1, .slice u2 n2 k2, .int .i64 cx, .int .i64 cy, .string cs, .slice u3 n3 k3] : Array Value) _ _ HR9.out
          rw [HDD.out]
          exact bodyPost_ret (v := .agg #[.bool cb, .slice u1 n1 k1, .slice u2 n2 k2, .int .i64 cx, .int .i64 cy, .string cs, .slice u3 n3 k3]) (results_cell_row Tryd.results29 _ _ (w.heap.size + 1) _ _ _ _ rfl hz Tryd.underlying35 rfl (by kernel_rfl)) rfl ⟨_, rfl, HD9.out.imp (fun _ h => h) (by simp) (fun b hb _ => setRow_other w9 (w.heap.size + 1) b _ (by rcases hb with h | h; (· have := h.2; omega); (· omega))), below_row HB9.out (by omega)⟩
end Go.Proofs.YtkhchmgdaolojaaDoor.Tms
