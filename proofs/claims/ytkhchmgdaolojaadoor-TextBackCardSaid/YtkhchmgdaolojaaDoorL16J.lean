
/-
  The statements of layer 16: TextJoins, walked over the program.
-/
import Derived.Test.YtkhchmgdaolojaaDoorL16M
namespace Go.Proofs.YtkhchmgdaolojaaDoor.Tms
open Go Go.RowKit Go.Proofs.YtkhchmgdaolojaaDoor.Reg Go.Proofs.YtkhchmgdaolojaaDoor.Rws Go.Proofs.YtkhchmgdaolojaaDoor.Maps Go.Instr
set_option linter.unusedVariables false
set_option linter.unusedSimpArgs false

theorem row3P {w : World} {P : Nat → Prop} {x y z : Tm} {a a' a'' : Option Addr} {c c' c'' : Nat} (hx : IsTm w P (.agg #[.int .i64 x.k, .int .i64 x.n, .string x.s, .slice a x.args.length c]) x) (hy : IsTm w P (.agg #[.int .i64 y.k, .int .i64 y.n, .string y.s, .slice a' y.args.length c']) y) (hz : IsTm w P (.agg #[.int .i64 z.k, .int .i64 z.n, .string z.s, .slice a'' z.args.length c'']) z) (hP : P w.heap.size) :
    IsSl (w.alloc (.cells #[.int .i64 x.k, .int .i64 x.n, .string x.s, .slice a x.args.length c, .int .i64 y.k, .int .i64 y.n, .string y.s, .slice a' y.args.length c', .int .i64 z.k, .int .i64 z.n, .string z.s, .slice a'' z.args.length c''] 28 (0, 0))) P (.slice (some ⟨w.heap.size, 0, none⟩) 3 3) [x, y, z] := by
  have hb : Below w.heap.size w (w.alloc (.cells #[.int .i64 x.k, .int .i64 x.n, .string x.s, .slice a x.args.length c, .int .i64 y.k, .int .i64 y.n, .string y.s, .slice a' y.args.length c', .int .i64 z.k, .int .i64 z.n, .string z.s, .slice a'' z.args.length c''] 28 (0, 0))) := (Below.refl _ _).alloc (Nat.le_refl _) _
  have h := heap_alloc_new w (.cells #[.int .i64 x.k, .int .i64 x.n, .string x.s, .slice a x.args.length c, .int .i64 y.k, .int .i64 y.n, .string y.s, .slice a' y.args.length c', .int .i64 z.k, .int .i64 z.n, .string z.s, .slice a'' z.args.length c''] 28 (0, 0))
  exact sl_of_cells (cs := [.int .i64 x.k, .int .i64 x.n, .string x.s, .slice a x.args.length c, .int .i64 y.k, .int .i64 y.n, .string y.s, .slice a' y.args.length c', .int .i64 z.k, .int .i64 z.n, .string z.s, .slice a'' z.args.length c'']) h (CellsOf.cons (hx.below hb) (CellsOf.cons (hy.below hb) (CellsOf.cons (hz.below hb) trivial))) rfl hP
theorem three16 (w : World) (a b c : Obj) : (((w.alloc a).alloc b).alloc c).heap[w.heap.size]? = some a ∧ (((w.alloc a).alloc b).alloc c).heap[w.heap.size + 1]? = some b ∧ (((w.alloc a).alloc b).alloc c).heap[w.heap.size + 2]? = some c ∧ (((w.alloc a).alloc b).alloc c).heap.size = w.heap.size + 3 ∧ Below w.heap.size w (((w.alloc a).alloc b).alloc c) := by
  obtain ⟨h1, h2, h3, h4⟩ := two w a b
  have hb := (Below.refl ((w.alloc a).alloc b).heap.size ((w.alloc a).alloc b)).alloc (Nat.le_refl _) c
  have h5 := heap_alloc_new ((w.alloc a).alloc b) c
  rw [h3] at h5
  exact ⟨row_on h1 hb, row_on h2 hb, h5, by simp, h4.trans (hb.mono h4.size)⟩
theorem atom_may16 {s : ByteArray} (h : s.size ≤ 1000) : mayT (atomT s) = true := by simp [atomT, mayT, mayB, mayTL, h]
theorem atom_ck16 {s : ByteArray} (h : s.size ≤ 1000) : (atomT s).size ≤ 1000000 ∧ checkT (atomT s) = 0 := ⟨by simp [atomT, Tm.size, sizeL], check_zero (atom_may16 h) (by simp [atomT, Tm.size, sizeL])⟩
theorem atom_isA (w : World) (P : Nat → Prop) (s : ByteArray) (a : Option Addr) (c : Nat) : IsTm w P (.agg #[.int .i64 3, .int .i64 0, .string s, .slice a 0 c]) (atomT s) := IsTm.mk' (t := atomT s) (IsSl.nil w P a c)
theorem concat_is {s t : ByteArray} (h : s.size + t.size ≤ 1000) : concatD (atomT s) (atomT t) (varT 0) = .is 2 (atomT (s ++ t)) := by
  unfold concatD
  rw [if_neg (by show ¬ ((3 : Int) = 1 ∨ (3 : Int) = 1); decide), show nameT (atomT s) = some s from rfl, show nameT (atomT t) = some t from rfl]
  simp only []
  rw [if_neg (fun h => h.1 rfl), if_neg (by omega)]
theorem length_is (s : ByteArray) : lengthD (atomT s) (varT 0) = .is 1 (intT s.size) := by
  unfold lengthD
  rw [if_neg (by show ¬ ((3 : Int) = 1); decide), show nameT (atomT s) = some s from rfl]
  simp only []
  rw [if_neg (fun h => h.1 rfl), if_neg (fun h => absurd h.1 (by show ¬ ((1 : Int) = 2); decide))]
set_option maxRecDepth 100000 in
set_option maxHeartbeats 8000000 in
theorem l16_join (s t : ByteArray) (a a' : Option Addr) (c c' : Nat) (w : World) (hst : s.size + t.size ≤ 1000) (ht : Num.Tab w) :
    Calls Tryd.prog 21 #[.agg #[.int .i64 3, .int .i64 0, .string s, .slice a 0 c], .agg #[.int .i64 3, .int .i64 0, .string t, .slice a' 0 c']] w (fun e w' => ∃ b d, e = .returned (.agg #[.int .i64 3, .int .i64 0, .string (s ++ t), .slice b 0 d]) ∧ Below w.heap.size w w') := by
  have HTB := Lib.hid ht
  have HST := Lib.hid hst
  obtain ⟨k1, k2, k3, k4, k5⟩ := three16 w (.cells #[.int .i64 3, .int .i64 0, .string s, .slice a 0 c] 28 (0, 0)) (.cells #[.int .i64 3, .int .i64 0, .string t, .slice a' 0 c'] 28 (0, 0)) (.cells #[.int .i64 0, .int .i64 0, .string ⟨#[]⟩, .slice none 0 0] 28 (0, 0))
  have HK := Lib.hid (And.intro k1 (And.intro k2 (And.intro k3 (And.intro k4 k5))))
  clear ht hst k1 k2 k3 k4 k5
  go_enter Tryd.func21, Tryd.ntmps21
  go_upto_region 1 with fail
  generalize ((w.alloc (.cells #[.int .i64 3, .int .i64 0, .string s, .slice a 0 c] 28 (0, 0))).alloc (.cells #[.int .i64 3, .int .i64 0, .string t, .slice a' 0 c'] 28 (0, 0))).alloc (.cells #[.int .i64 0, .int .i64 0, .string ⟨#[]⟩, .slice none 0 0] 28 (0, 0)) = W1 at *
  go_cut [5, 6] from 9 to 17 (fun v5 v6 wx => ∃ g, v5 = .pointer (some ⟨g, 0, none⟩) ∧ v6 = .int .i64 0 ∧ DIs 2 (atomT (s ++ t)) g wx ∧ wx.heap[w.heap.size + 2]? = some (.cells #[.int .i64 0, .int .i64 0, .string ⟨#[]⟩, .slice none 0 0] 28 (0, 0)) ∧ Below w.heap.size w wx)
  case first =>
    obtain ⟨hr2, hr3, hr4, hsz, hbw⟩ := HK.out
    replace hsz : w.heap.size + 3 ≤ W1.heap.size := by omega
    clear HK
    refine wp_region_rest (by kernel_rfl) ?_
    have hd := (Below.refl W1.heap.size W1).drew
    replace hr2 := row_on hr2 hd
    replace hr3 := row_on hr3 hd
    replace hr4 := row_on hr4 hd
    replace hbw := hbw.trans (hd.mono hbw.size)
    clear hd
    generalize W1.drew = W0 at *
    have hsz1 := (Array.getElem?_eq_some_iff.1 hr4).1
    clear hsz
    obtain ⟨y0, y1, y2, y3⟩ := row4 hr2
    obtain ⟨z0, z1, z2, z3⟩ := row4 hr3
    have hlt := (Array.getElem?_eq_some_iff.1 hr2).1
    have hlt2 := (Array.getElem?_eq_some_iff.1 hr3).1
    have HR4 := Lib.hid hr4
    have HBW := Lib.hid hbw
    clear hbw hr2 hr3 hr4
    refine rest_chainP (fun u => Below W0.heap.size W0 u) 0 11 (.soft 0 (.soft 1 (.two 2 8 (.two 3 8 (.two 4 8 (.soft 5 (.soft 6 (.soft 7 (.one 8 (.one 9 (.soft 10 .nil)))))) (.one 4 (.soft 5 (.soft 6 (.soft 7 (.one 9 (.soft 10 .nil))))))) (.one 3 (.one 4 (.soft 5 (.soft 6 (.soft 7 (.one 9 (.soft 10 .nil)))))))) (.one 2 (.one 3 (.one 4 (.soft 5 (.soft 6 (.soft 7 (.one 9 (.soft 10 .nil))))))))))) (.soft _ (.soft _ (.two _ _ (.two _ _ (.two _ _ (.soft _ (.soft _ (.soft _ (.one _ (.one _ (.soft _ .nil)))))) (.one _ (.soft _ (.soft _ (.soft _ (.one _ (.soft _ .nil))))))) (.one _ (.one _ (.soft _ (.soft _ (.soft _ (.one _ (.soft _ .nil)))))))) (.one _ (.one _ (.one _ (.soft _ (.soft _ (.soft _ (.one _ (.soft _ .nil))))))))))) ⟨rfl, ⟨rfl, ⟨rfl, rfl, ⟨rfl, rfl, ⟨rfl, rfl, ⟨rfl, ⟨rfl, ⟨rfl, ⟨rfl, ⟨rfl, ⟨rfl, trivial⟩⟩⟩⟩⟩⟩, ⟨rfl, ⟨rfl, ⟨rfl, ⟨rfl, ⟨rfl, ⟨rfl, trivial⟩⟩⟩⟩⟩⟩⟩, ⟨rfl, ⟨rfl, ⟨rfl, ⟨rfl, ⟨rfl, ⟨rfl, ⟨rfl, trivial⟩⟩⟩⟩⟩⟩⟩⟩, ⟨rfl, ⟨rfl, ⟨rfl, ⟨rfl, ⟨rfl, ⟨rfl, ⟨rfl, ⟨rfl, trivial⟩⟩⟩⟩⟩⟩⟩⟩⟩⟩⟩ (by kernel_rfl) (by kernel_rfl) (by kernel_rfl) (by kernel_rfl) (.inl rfl) (Below.refl _ _) ?_
    have hb0 := Below.refl W0.heap.size W0
    refine chainP_soft (a1 := ?ma1) (by kernel_rfl) (by kernel_rfl) ?mh1 ?mr1
    case mh1 =>
      intro u hu E hE
      have c0 := (hu.cell (p := ⟨w.heap.size, 0, none⟩) hlt).trans y0
      have c1 := (hu.cell (p := ⟨w.heap.size, 1, none⟩) hlt).trans y1
      have c2 := (hu.cell (p := ⟨w.heap.size, 2, none⟩) hlt).trans y2
      have c3 := (hu.cell (p := ⟨w.heap.size, 3, none⟩) hlt).trans y3
      go_wp2
      rfl
    refine chainP_soft (a1 := ?ma2) (by kernel_rfl) (by kernel_rfl) ?mh2 ?mr2
    case mh2 =>
      intro u hu E hE
      have c0 := (hu.cell (p := ⟨(w.heap.size + 1), 0, none⟩) hlt2).trans z0
      have c1 := (hu.cell (p := ⟨(w.heap.size + 1), 1, none⟩) hlt2).trans z1
      have c2 := (hu.cell (p := ⟨(w.heap.size + 1), 2, none⟩) hlt2).trans z2
      have c3 := (hu.cell (p := ⟨(w.heap.size + 1), 3, none⟩) hlt2).trans z3
      go_wp2
      rfl
    refine chainP_two ?_ ?_
    · intro E hE
      go_wp2_with (refine (l16_v _ _).mono ?_; rintro e x1 ⟨rfl, hbn⟩)
      have hx1 := hb0.trans (hbn.mono hb0.size)
      clear hbn
      refine ⟨hx1, ?_⟩
      refine chainP_two ?_ ?_
      · intro E hE
        go_wp2
        have hrw : IsSl (x1.alloc (.cells #[.int .i64 3, .int .i64 0, .string s, .slice a 0 c, .int .i64 3, .int .i64 0, .string t, .slice a' 0 c', .int .i64 1, .int .i64 0, .string ⟨#[]⟩, .slice none 0 0] 28 (0, 0))) (fun b => b < 0 ∨ b = x1.heap.size) (.slice (some ⟨x1.heap.size, 0, none⟩) 3 3) [atomT s, atomT t, varT 0] := row3P (x := atomT s) (y := atomT t) (z := varT 0) (a := a) (c := c) (a' := a') (c' := c') (a'' := none) (c'' := 0) (atom_isA _ _ _ _ _) (atom_isA _ _ _ _ _) (var_is _ _ _) (Or.inr rfl)
        have hbn := (Below.refl x1.heap.size x1).alloc (Nat.le_refl _) (.cells #[.int .i64 3, .int .i64 0, .string s, .slice a 0 c, .int .i64 3, .int .i64 0, .string t, .slice a' 0 c', .int .i64 1, .int .i64 0, .string ⟨#[]⟩, .slice none 0 0] 28 (0, 0))
        have hrl := (Array.getElem?_eq_some_iff.1 (heap_alloc_new x1 (.cells #[.int .i64 3, .int .i64 0, .string s, .slice a 0 c, .int .i64 3, .int .i64 0, .string t, .slice a' 0 c', .int .i64 1, .int .i64 0, .string ⟨#[]⟩, .slice none 0 0] 28 (0, 0)))).1
        have hx2 := hx1.trans (hbn.mono hx1.size)
        clear hbn
        refine ⟨hx2, ?_⟩
        generalize hGx2 : x1.alloc (.cells #[.int .i64 3, .int .i64 0, .string s, .slice a 0 c, .int .i64 3, .int .i64 0, .string t, .slice a' 0 c', .int .i64 1, .int .i64 0, .string ⟨#[]⟩, .slice none 0 0] 28 (0, 0)) = x2 at *
        clear hGx2
        refine chainP_two ?_ ?_
        · intro E hE
          go_wp2_with (refine (tx_Do_concat [atomT s, atomT t, varT 0] (atomT s) (atomT t) (varT 0) _ _ _ _ hrw rfl (by intro t ht; simp only [List.mem_cons, List.not_mem_nil, or_false] at ht; rcases ht with rfl | rfl | rfl; (· exact atom_ck16 (by have := HST.out; omega)); (· exact atom_ck16 (by have := HST.out; omega)); (· exact ⟨by decide, by decide +kernel⟩)) (by show Num.Fit 0; decide) (by show Num.Fit 0; decide) (by decide) (by have := HST.out; show s.size ≤ _; omega) (by have := HST.out; show t.size ≤ _; omega) (HTB.out.on (HBW.out.trans (hx2.mono HBW.out.size)))).mono ?_; rintro e x3 hdp; rw [concat_is HST.out] at hdp; obtain ⟨p1, r1, p2, r2, rfl, hic, hsc, hbn⟩ := hdp.is)
          clear hrw hdp
          have HIC := Lib.hid hic.any16
          have HSC := Lib.hid (hsc.imp (P' := AnyB) (fun _ _ => trivial) (fun _ _ _ => rfl))
          clear hrl
          clear hic hsc
          have hx3 := hx2.trans (hbn.mono hx2.size)
          clear hbn
          refine ⟨hx3, ?_⟩
          refine chainP_softv (.tuple #[.agg #[.bool true, .slice p1 1 r1, .slice p2 1 r2, .int .i64 0, .int .i64 0, .string ⟨#[]⟩, .slice none 0 0], .int .i64 0]) (by kernel_rfl) (by kernel_rfl) ?_ ?_
          · simp only [Act.put, List.getElem?_toArray, List.getElem?_cons_succ, List.getElem?_cons_zero, Option.bind_some, List.setIfInBounds_toArray, List.set_cons_succ, List.set_cons_zero, Nat.reduceAdd]
            intro u hu E hE
            go_wp2
            exact hE
          simp only [Act.put, List.getElem?_toArray, List.getElem?_cons_succ, List.getElem?_cons_zero, Option.bind_some, List.setIfInBounds_toArray, List.set_cons_succ, List.set_cons_zero, Nat.reduceAdd]
          refine chainP_softv (.agg #[.bool true, .slice p1 1 r1, .slice p2 1 r2, .int .i64 0, .int .i64 0, .string ⟨#[]⟩, .slice none 0 0]) (by kernel_rfl) (by kernel_rfl) ?_ ?_
          · simp only [Act.put, List.getElem?_toArray, List.getElem?_cons_succ, List.getElem?_cons_zero, Option.bind_some, List.setIfInBounds_toArray, List.set_cons_succ, List.set_cons_zero, Nat.reduceAdd]
            intro u hu E hE
            go_wp2
            exact hE
          simp only [Act.put, List.getElem?_toArray, List.getElem?_cons_succ, List.getElem?_cons_zero, Option.bind_some, List.setIfInBounds_toArray, List.set_cons_succ, List.set_cons_zero, Nat.reduceAdd]
          refine chainP_softv (.int .i64 0) (by kernel_rfl) (by kernel_rfl) ?_ ?_
          · simp only [Act.put, List.getElem?_toArray, List.getElem?_cons_succ, List.getElem?_cons_zero, Option.bind_some, List.setIfInBounds_toArray, List.set_cons_succ, List.set_cons_zero, Nat.reduceAdd]
            intro u hu E hE
            go_wp2
            exact hE
          simp only [Act.put, List.getElem?_toArray, List.getElem?_cons_succ, List.getElem?_cons_zero, Option.bind_some, List.setIfInBounds_toArray, List.set_cons_succ, List.set_cons_zero, Nat.reduceAdd]
          refine chainP_one ?_
          intro E hE
          go_wp2
          have hrd := heap_alloc_new x3 (.cells #[.bool false, .slice none 0 0, .slice none 0 0, .int .i64 0, .int .i64 0, .string ⟨#[]⟩, .slice none 0 0] 35 (0, 0))
          have hbn := (Below.refl x3.heap.size x3).alloc (Nat.le_refl _) (.cells #[.bool false, .slice none 0 0, .slice none 0 0, .int .i64 0, .int .i64 0, .string ⟨#[]⟩, .slice none 0 0] 35 (0, 0))
          have hgl : W0.heap.size ≤ x3.heap.size := hx3.size
          replace HIC := Lib.hid (HIC.out.ne16 (g := x3.heap.size) (fun b _ hlt => by omega))
          replace HSC := Lib.hid (HSC.out.ne16 (g := x3.heap.size) (fun b _ hlt => by omega))
          replace HIC := Lib.hid (HIC.out.below hbn)
          replace HSC := Lib.hid (HSC.out.below hbn)
          have hx4 := hx3.trans (hbn.mono hx3.size)
          clear hbn
          refine ⟨hx4, ?_⟩
          generalize hGx4 : x3.alloc (.cells #[.bool false, .slice none 0 0, .slice none 0 0, .int .i64 0, .int .i64 0, .string ⟨#[]⟩, .slice none 0 0] 35 (0, 0)) = x4 at *
          clear hGx4
          refine chainP_one ?_
          intro E hE
          have HDR := Lib.hid (dis_store (f := 2) (t := (atomT (s ++ t))) hrd HIC.out HSC.out)
          go_wp2_with (refine wpList_store_row rfl 35 (.tmp 5) (.tmp 15) rfl (x3.heap.size) #[.bool true, .slice p1 1 r1, .slice p2 1 r2, .int .i64 0, .int .i64 0, .string ⟨#[]⟩, .slice none 0 0] rfl rfl _ _ hrd size_did rfl (by simp [Value.oneCell']) ?_)
          have hfin := below_row (cs := #[.bool true, .slice p1 1 r1, .slice p2 1 r2, .int .i64 0, .int .i64 0, .string ⟨#[]⟩, .slice none 0 0]) hx4 hgl
          refine ⟨hfin, ?_⟩
          refine chainP_softv (.int .i64 0) (by kernel_rfl) (by kernel_rfl) ?_ ?_
          · simp only [Act.put, List.getElem?_toArray, List.getElem?_cons_succ, List.getElem?_cons_zero, Option.bind_some, List.setIfInBounds_toArray, List.set_cons_succ, List.set_cons_zero, Nat.reduceAdd]
            intro u hu E hE
            go_wp2
            exact hE
          simp only [Act.put, List.getElem?_toArray, List.getElem?_cons_succ, List.getElem?_cons_zero, Option.bind_some, List.setIfInBounds_toArray, List.set_cons_succ, List.set_cons_zero, Nat.reduceAdd]
          have HFIN := Lib.hid hfin
          clear hrd HIC HSC hfin
          refine chainP_nil (rest_end (by decide) ?_)
          go_wp2
          go_meet
          exact ⟨_, rfl, rfl, HDR.out, row_on HR4.out HFIN.out, HBW.out.trans (HFIN.out.mono HBW.out.size)⟩
        · intro E hE
          go_wp2
          have hrd := heap_alloc_new x2 (.cells #[.bool false, .slice none 0 0, .slice none 0 0, .int .i64 0, .int .i64 0, .string ⟨#[]⟩, .slice none 0 0] 35 (0, 0))
          have hbn := (Below.refl x2.heap.size x2).alloc (Nat.le_refl _) (.cells #[.bool false, .slice none 0 0, .slice none 0 0, .int .i64 0, .int .i64 0, .string ⟨#[]⟩, .slice none 0 0] 35 (0, 0))
          have hgl : W0.heap.size ≤ x2.heap.size := hx2.size
          have hgr : x1.heap.size ≠ x2.heap.size := by omega
          replace hrw := hrw.below hbn
          replace hrl := Nat.lt_of_lt_of_le hrl hbn.size
          have hx3 := hx2.trans (hbn.mono hx2.size)
          clear hbn
          refine ⟨hx3, ?_⟩
          generalize hGx3 : x2.alloc (.cells #[.bool false, .slice none 0 0, .slice none 0 0, .int .i64 0, .int .i64 0, .string ⟨#[]⟩, .slice none 0 0] 35 (0, 0)) = x3 at *
          clear hGx3
          refine chainP_one ?_
          intro E hE
          go_wp2_with (refine (tx_Do_concat [atomT s, atomT t, varT 0] (atomT s) (atomT t) (varT 0) _ _ _ _ hrw rfl (by intro t ht; simp only [List.mem_cons, List.not_mem_nil, or_false] at ht; rcases ht with rfl | rfl | rfl; (· exact atom_ck16 (by have := HST.out; omega)); (· exact atom_ck16 (by have := HST.out; omega)); (· exact ⟨by decide, by decide +kernel⟩)) (by show Num.Fit 0; decide) (by show Num.Fit 0; decide) (by decide) (by have := HST.out; show s.size ≤ _; omega) (by have := HST.out; show t.size ≤ _; omega) (HTB.out.on (HBW.out.trans (hx3.mono HBW.out.size)))).mono ?_; rintro e x4 hdp; rw [concat_is HST.out] at hdp; obtain ⟨p1, r1, p2, r2, rfl, hic, hsc, hbn⟩ := hdp.is)
          clear hrw hdp
          have hgl0 := (Array.getElem?_eq_some_iff.1 hrd).1
          have HIC := Lib.hid (hic.ne16 (g := x2.heap.size) (fun b hb _ => by rcases hb with ⟨hb | hb, hb2⟩ | hb <;> omega))
          have HSC := Lib.hid (hsc.ne16 (g := x2.heap.size) (fun b hb _ => by rcases hb with ⟨hb | hb, hb2⟩ | hb <;> omega))
          clear hgl0 hgr hrl
          clear hic hsc
          replace hrd := row_on hrd hbn
          have hx4 := hx3.trans (hbn.mono hx3.size)
          clear hbn
          refine ⟨hx4, ?_⟩
          refine chainP_softv (.tuple #[.agg #[.bool true, .slice p1 1 r1, .slice p2 1 r2, .int .i64 0, .int .i64 0, .string ⟨#[]⟩, .slice none 0 0], .int .i64 0]) (by kernel_rfl) (by kernel_rfl) ?_ ?_
          · simp only [Act.put, List.getElem?_toArray, List.getElem?_cons_succ, List.getElem?_cons_zero, Option.bind_some, List.setIfInBounds_toArray, List.set_cons_succ, List.set_cons_zero, Nat.reduceAdd]
            intro u hu E hE
            go_wp2
            exact hE
          simp only [Act.put, List.getElem?_toArray, List.getElem?_cons_succ, List.getElem?_cons_zero, Option.bind_some, List.setIfInBounds_toArray, List.set_cons_succ, List.set_cons_zero, Nat.reduceAdd]
          refine chainP_softv (.agg #[.bool true, .slice p1 1 r1, .slice p2 1 r2, .int .i64 0, .int .i64 0, .string ⟨#[]⟩, .slice none 0 0]) (by kernel_rfl) (by kernel_rfl) ?_ ?_
          · simp only [Act.put, List.getElem?_toArray, List.getElem?_cons_succ, List.getElem?_cons_zero, Option.bind_some, List.setIfInBounds_toArray, List.set_cons_succ, List.set_cons_zero, Nat.reduceAdd]
            intro u hu E hE
            go_wp2
            exact hE
          simp only [Act.put, List.getElem?_toArray, List.getElem?_cons_succ, List.getElem?_cons_zero, Option.bind_some, List.setIfInBounds_toArray, List.set_cons_succ, List.set_cons_zero, Nat.reduceAdd]
          refine chainP_softv (.int .i64 0) (by kernel_rfl) (by kernel_rfl) ?_ ?_
          · simp only [Act.put, List.getElem?_toArray, List.getElem?_cons_succ, List.getElem?_cons_zero, Option.bind_some, List.setIfInBounds_toArray, List.set_cons_succ, List.set_cons_zero, Nat.reduceAdd]
            intro u hu E hE
            go_wp2
            exact hE
          simp only [Act.put, List.getElem?_toArray, List.getElem?_cons_succ, List.getElem?_cons_zero, Option.bind_some, List.setIfInBounds_toArray, List.set_cons_succ, List.set_cons_zero, Nat.reduceAdd]
          refine chainP_one ?_
          intro E hE
          have HDR := Lib.hid (dis_store (f := 2) (t := (atomT (s ++ t))) hrd HIC.out HSC.out)
          go_wp2_with (refine wpList_store_row rfl 35 (.tmp 5) (.tmp 15) rfl (x2.heap.size) #[.bool true, .slice p1 1 r1, .slice p2 1 r2, .int .i64 0, .int .i64 0, .string ⟨#[]⟩, .slice none 0 0] rfl rfl _ _ hrd size_did rfl (by simp [Value.oneCell']) ?_)
          have hfin := below_row (cs := #[.bool true, .slice p1 1 r1, .slice p2 1 r2, .int .i64 0, .int .i64 0, .string ⟨#[]⟩, .slice none 0 0]) hx4 hgl
          refine ⟨hfin, ?_⟩
          refine chainP_softv (.int .i64 0) (by kernel_rfl) (by kernel_rfl) ?_ ?_
          · simp only [Act.put, List.getElem?_toArray, List.getElem?_cons_succ, List.getElem?_cons_zero, Option.bind_some, List.setIfInBounds_toArray, List.set_cons_succ, List.set_cons_zero, Nat.reduceAdd]
            intro u hu E hE
            go_wp2
            exact hE
          simp only [Act.put, List.getElem?_toArray, List.getElem?_cons_succ, List.getElem?_cons_zero, Option.bind_some, List.setIfInBounds_toArray, List.set_cons_succ, List.set_cons_zero, Nat.reduceAdd]
          have HFIN := Lib.hid hfin
          clear hrd HIC HSC hfin
          refine chainP_nil (rest_end (by decide) ?_)
          go_wp2
          go_meet
          exact ⟨_, rfl, rfl, HDR.out, row_on HR4.out HFIN.out, HBW.out.trans (HFIN.out.mono HBW.out.size)⟩
      · intro E hE
        go_wp2
        have hrd := heap_alloc_new x1 (.cells #[.bool false, .slice none 0 0, .slice none 0 0, .int .i64 0, .int .i64 0, .string ⟨#[]⟩, .slice none 0 0] 35 (0, 0))
        have hbn := (Below.refl x1.heap.size x1).alloc (Nat.le_refl _) (.cells #[.bool false, .slice none 0 0, .slice none 0 0, .int .i64 0, .int .i64 0, .string ⟨#[]⟩, .slice none 0 0] 35 (0, 0))
        have hgl : W0.heap.size ≤ x1.heap.size := hx1.size
        have hx2 := hx1.trans (hbn.mono hx1.size)
        clear hbn
        refine ⟨hx2, ?_⟩
        generalize hGx2 : x1.alloc (.cells #[.bool false, .slice none 0 0, .slice none 0 0, .int .i64 0, .int .i64 0, .string ⟨#[]⟩, .slice none 0 0] 35 (0, 0)) = x2 at *
        clear hGx2
        refine chainP_one ?_
        intro E hE
        go_wp2
        have hrw : IsSl (x2.alloc (.cells #[.int .i64 3, .int .i64 0, .string s, .slice a 0 c, .int .i64 3, .int .i64 0, .string t, .slice a' 0 c', .int .i64 1, .int .i64 0, .string ⟨#[]⟩, .slice none 0 0] 28 (0, 0))) (fun b => b < 0 ∨ b = x2.heap.size) (.slice (some ⟨x2.heap.size, 0, none⟩) 3 3) [atomT s, atomT t, varT 0] := row3P (x := atomT s) (y := atomT t) (z := varT 0) (a := a) (c := c) (a' := a') (c' := c') (a'' := none) (c'' := 0) (atom_isA _ _ _ _ _) (atom_isA _ _ _ _ _) (var_is _ _ _) (Or.inr rfl)
        have hbn := (Below.refl x2.heap.size x2).alloc (Nat.le_refl _) (.cells #[.int .i64 3, .int .i64 0, .string s, .slice a 0 c, .int .i64 3, .int .i64 0, .string t, .slice a' 0 c', .int .i64 1, .int .i64 0, .string ⟨#[]⟩, .slice none 0 0] 28 (0, 0))
        have hrl := (Array.getElem?_eq_some_iff.1 (heap_alloc_new x2 (.cells #[.int .i64 3, .int .i64 0, .string s, .slice a 0 c, .int .i64 3, .int .i64 0, .string t, .slice a' 0 c', .int .i64 1, .int .i64 0, .string ⟨#[]⟩, .slice none 0 0] 28 (0, 0)))).1
        have hgr : x2.heap.size ≠ x1.heap.size := by have := (Array.getElem?_eq_some_iff.1 hrd).1; omega
        replace hrd := row_on hrd hbn
        have hx3 := hx2.trans (hbn.mono hx2.size)
        clear hbn
        refine ⟨hx3, ?_⟩
        generalize hGx3 : x2.alloc (.cells #[.int .i64 3, .int .i64 0, .string s, .slice a 0 c, .int .i64 3, .int .i64 0, .string t, .slice a' 0 c', .int .i64 1, .int .i64 0, .string ⟨#[]⟩, .slice none 0 0] 28 (0, 0)) = x3 at *
        clear hGx3
        refine chainP_one ?_
        intro E hE
        go_wp2_with (refine (tx_Do_concat [atomT s, atomT t, varT 0] (atomT s) (atomT t) (varT 0) _ _ _ _ hrw rfl (by intro t ht; simp only [List.mem_cons, List.not_mem_nil, or_false] at ht; rcases ht with rfl | rfl | rfl; (· exact atom_ck16 (by have := HST.out; omega)); (· exact atom_ck16 (by have := HST.out; omega)); (· exact ⟨by decide, by decide +kernel⟩)) (by show Num.Fit 0; decide) (by show Num.Fit 0; decide) (by decide) (by have := HST.out; show s.size ≤ _; omega) (by have := HST.out; show t.size ≤ _; omega) (HTB.out.on (HBW.out.trans (hx3.mono HBW.out.size)))).mono ?_; rintro e x4 hdp; rw [concat_is HST.out] at hdp; obtain ⟨p1, r1, p2, r2, rfl, hic, hsc, hbn⟩ := hdp.is)
        clear hrw hdp
        have hgl0 := (Array.getElem?_eq_some_iff.1 hrd).1
        have HIC := Lib.hid (hic.ne16 (g := x1.heap.size) (fun b hb _ => by rcases hb with ⟨hb | hb, hb2⟩ | hb <;> omega))
        have HSC := Lib.hid (hsc.ne16 (g := x1.heap.size) (fun b hb _ => by rcases hb with ⟨hb | hb, hb2⟩ | hb <;> omega))
        clear hgl0 hgr hrl
        clear hic hsc
        replace hrd := row_on hrd hbn
        have hx4 := hx3.trans (hbn.mono hx3.size)
        clear hbn
        refine ⟨hx4, ?_⟩
        refine chainP_softv (.tuple #[.agg #[.bool true, .slice p1 1 r1, .slice p2 1 r2, .int .i64 0, .int .i64 0, .string ⟨#[]⟩, .slice none 0 0], .int .i64 0]) (by kernel_rfl) (by kernel_rfl) ?_ ?_
        · simp only [Act.put, List.getElem?_toArray, List.getElem?_cons_succ, List.getElem?_cons_zero, Option.bind_some, List.setIfInBounds_toArray, List.set_cons_succ, List.set_cons_zero, Nat.reduceAdd]
          intro u hu E hE
          go_wp2
          exact hE
        simp only [Act.put, List.getElem?_toArray, List.getElem?_cons_succ, List.getElem?_cons_zero, Option.bind_some, List.setIfInBounds_toArray, List.set_cons_succ, List.set_cons_zero, Nat.reduceAdd]
        refine chainP_softv (.agg #[.bool true, .slice p1 1 r1, .slice p2 1 r2, .int .i64 0, .int .i64 0, .string ⟨#[]⟩, .slice none 0 0]) (by kernel_rfl) (by kernel_rfl) ?_ ?_
        · simp only [Act.put, List.getElem?_toArray, List.getElem?_cons_succ, List.getElem?_cons_zero, Option.bind_some, List.setIfInBounds_toArray, List.set_cons_succ, List.set_cons_zero, Nat.reduceAdd]
          intro u hu E hE
          go_wp2
          exact hE
        simp only [Act.put, List.getElem?_toArray, List.getElem?_cons_succ, List.getElem?_cons_zero, Option.bind_some, List.setIfInBounds_toArray, List.set_cons_succ, List.set_cons_zero, Nat.reduceAdd]
        refine chainP_softv (.int .i64 0) (by kernel_rfl) (by kernel_rfl) ?_ ?_
        · simp only [Act.put, List.getElem?_toArray, List.getElem?_cons_succ, List.getElem?_cons_zero, Option.bind_some, List.setIfInBounds_toArray, List.set_cons_succ, List.set_cons_zero, Nat.reduceAdd]
          intro u hu E hE
          go_wp2
          exact hE
        simp only [Act.put, List.getElem?_toArray, List.getElem?_cons_succ, List.getElem?_cons_zero, Option.bind_some, List.setIfInBounds_toArray, List.set_cons_succ, List.set_cons_zero, Nat.reduceAdd]
        refine chainP_one ?_
        intro E hE
        have HDR := Lib.hid (dis_store (f := 2) (t := (atomT (s ++ t))) hrd HIC.out HSC.out)
        go_wp2_with (refine wpList_store_row rfl 35 (.tmp 5) (.tmp 15) rfl (x1.heap.size) #[.bool true, .slice p1 1 r1, .slice p2 1 r2, .int .i64 0, .int .i64 0, .string ⟨#[]⟩, .slice none 0 0] rfl rfl _ _ hrd size_did rfl (by simp [Value.oneCell']) ?_)
        have hfin := below_row (cs := #[.bool true, .slice p1 1 r1, .slice p2 1 r2, .int .i64 0, .int .i64 0, .string ⟨#[]⟩, .slice none 0 0]) hx4 hgl
        refine ⟨hfin, ?_⟩
        refine chainP_softv (.int .i64 0) (by kernel_rfl) (by kernel_rfl) ?_ ?_
        · simp only [Act.put, List.getElem?_toArray, List.getElem?_cons_succ, List.getElem?_cons_zero, Option.bind_some, List.setIfInBounds_toArray, List.set_cons_succ, List.set_cons_zero, Nat.reduceAdd]
          intro u hu E hE
          go_wp2
          exact hE
        simp only [Act.put, List.getElem?_toArray, List.getElem?_cons_succ, List.getElem?_cons_zero, Option.bind_some, List.setIfInBounds_toArray, List.set_cons_succ, List.set_cons_zero, Nat.reduceAdd]
        have HFIN := Lib.hid hfin
        clear hrd HIC HSC hfin
        refine chainP_nil (rest_end (by decide) ?_)
        go_wp2
        go_meet
        exact ⟨_, rfl, rfl, HDR.out, row_on HR4.out HFIN.out, HBW.out.trans (HFIN.out.mono HBW.out.size)⟩
    · intro E hE
      go_wp2
      have hrd := heap_alloc_new W0 (.cells #[.bool false, .slice none 0 0, .slice none 0 0, .int .i64 0, .int .i64 0, .string ⟨#[]⟩, .slice none 0 0] 35 (0, 0))
      have hbn := (Below.refl W0.heap.size W0).alloc (Nat.le_refl _) (.cells #[.bool false, .slice none 0 0, .slice none 0 0, .int .i64 0, .int .i64 0, .string ⟨#[]⟩, .slice none 0 0] 35 (0, 0))
      have hgl : W0.heap.size ≤ W0.heap.size := hb0.size
      have hx1 := hb0.trans (hbn.mono hb0.size)
      clear hbn
      refine ⟨hx1, ?_⟩
      generalize hGx1 : W0.alloc (.cells #[.bool false, .slice none 0 0, .slice none 0 0, .int .i64 0, .int .i64 0, .string ⟨#[]⟩, .slice none 0 0] 35 (0, 0)) = x1 at *
      clear hGx1
      refine chainP_one ?_
      intro E hE
      go_wp2_with (refine (l16_v _ _).mono ?_; rintro e x2 ⟨rfl, hbn⟩)
      replace hrd := row_on hrd hbn
      have hx2 := hx1.trans (hbn.mono hx1.size)
      clear hbn
      refine ⟨hx2, ?_⟩
      refine chainP_one ?_
      intro E hE
      go_wp2
      have hrw : IsSl (x2.alloc (.cells #[.int .i64 3, .int .i64 0, .string s, .slice a 0 c, .int .i64 3, .int .i64 0, .string t, .slice a' 0 c', .int .i64 1, .int .i64 0, .string ⟨#[]⟩, .slice none 0 0] 28 (0, 0))) (fun b => b < 0 ∨ b = x2.heap.size) (.slice (some ⟨x2.heap.size, 0, none⟩) 3 3) [atomT s, atomT t, varT 0] := row3P (x := atomT s) (y := atomT t) (z := varT 0) (a := a) (c := c) (a' := a') (c' := c') (a'' := none) (c'' := 0) (atom_isA _ _ _ _ _) (atom_isA _ _ _ _ _) (var_is _ _ _) (Or.inr rfl)
      have hbn := (Below.refl x2.heap.size x2).alloc (Nat.le_refl _) (.cells #[.int .i64 3, .int .i64 0, .string s, .slice a 0 c, .int .i64 3, .int .i64 0, .string t, .slice a' 0 c', .int .i64 1, .int .i64 0, .string ⟨#[]⟩, .slice none 0 0] 28 (0, 0))
      have hrl := (Array.getElem?_eq_some_iff.1 (heap_alloc_new x2 (.cells #[.int .i64 3, .int .i64 0, .string s, .slice a 0 c, .int .i64 3, .int .i64 0, .string t, .slice a' 0 c', .int .i64 1, .int .i64 0, .string ⟨#[]⟩, .slice none 0 0] 28 (0, 0)))).1
      have hgr : x2.heap.size ≠ W0.heap.size := by have := (Array.getElem?_eq_some_iff.1 hrd).1; omega
      replace hrd := row_on hrd hbn
      have hx3 := hx2.trans (hbn.mono hx2.size)
      clear hbn
      refine ⟨hx3, ?_⟩
      generalize hGx3 : x2.alloc (.cells #[.int .i64 3, .int .i64 0, .string s, .slice a 0 c, .int .i64 3, .int .i64 0, .string t, .slice a' 0 c', .int .i64 1, .int .i64 0, .string ⟨#[]⟩, .slice none 0 0] 28 (0, 0)) = x3 at *
      clear hGx3
      refine chainP_one ?_
      intro E hE
      go_wp2_with (refine (tx_Do_concat [atomT s, atomT t, varT 0] (atomT s) (atomT t) (varT 0) _ _ _ _ hrw rfl (by intro t ht; simp only [List.mem_cons, List.not_mem_nil, or_false] at ht; rcases ht with rfl | rfl | rfl; (· exact atom_ck16 (by have := HST.out; omega)); (· exact atom_ck16 (by have := HST.out; omega)); (· exact ⟨by decide, by decide +kernel⟩)) (by show Num.Fit 0; decide) (by show Num.Fit 0; decide) (by decide) (by have := HST.out; show s.size ≤ _; omega) (by have := HST.out; show t.size ≤ _; omega) (HTB.out.on (HBW.out.trans (hx3.mono HBW.out.size)))).mono ?_; rintro e x4 hdp; rw [concat_is HST.out] at hdp; obtain ⟨p1, r1, p2, r2, rfl, hic, hsc, hbn⟩ := hdp.is)
      clear hrw hdp
      have hgl0 := (Array.getElem?_eq_some_iff.1 hrd).1
      have HIC := Lib.hid (hic.ne16 (g := W0.heap.size) (fun b hb _ => by rcases hb with ⟨hb | hb, hb2⟩ | hb <;> omega))
      have HSC := Lib.hid (hsc.ne16 (g := W0.heap.size) (fun b hb _ => by rcases hb with ⟨hb | hb, hb2⟩ | hb <;> omega))
      clear hgl0 hgr hrl
      clear hic hsc
      replace hrd := row_on hrd hbn
      have hx4 := hx3.trans (hbn.mono hx3.size)
      clear hbn
      refine ⟨hx4, ?_⟩
      refine chainP_softv (.tuple #[.agg #[.bool true, .slice p1 1 r1, .slice p2 1 r2, .int .i64 0, .int .i64 0, .string ⟨#[]⟩, .slice none 0 0], .int .i64 0]) (by kernel_rfl) (by kernel_rfl) ?_ ?_
      · simp only [Act.put, List.getElem?_toArray, List.getElem?_cons_succ, List.getElem?_cons_zero, Option.bind_some, List.setIfInBounds_toArray, List.set_cons_succ, List.set_cons_zero, Nat.reduceAdd]
        intro u hu E hE
        go_wp2
        exact hE
      simp only [Act.put, List.getElem?_toArray, List.getElem?_cons_succ, List.getElem?_cons_zero, Option.bind_some, List.setIfInBounds_toArray, List.set_cons_succ, List.set_cons_zero, Nat.reduceAdd]
      refine chainP_softv (.agg #[.bool true, .slice p1 1 r1, .slice p2 1 r2, .int .i64 0, .int .i64 0, .string ⟨#[]⟩, .slice none 0 0]) (by kernel_rfl) (by kernel_rfl) ?_ ?_
      · simp only [Act.put, List.getElem?_toArray, List.getElem?_cons_succ, List.getElem?_cons_zero, Option.bind_some, List.setIfInBounds_toArray, List.set_cons_succ, List.set_cons_zero, Nat.reduceAdd]
        intro u hu E hE
        go_wp2
        exact hE
      simp only [Act.put, List.getElem?_toArray, List.getElem?_cons_succ, List.getElem?_cons_zero, Option.bind_some, List.setIfInBounds_toArray, List.set_cons_succ, List.set_cons_zero, Nat.reduceAdd]
      refine chainP_softv (.int .i64 0) (by kernel_rfl) (by kernel_rfl) ?_ ?_
      · simp only [Act.put, List.getElem?_toArray, List.getElem?_cons_succ, List.getElem?_cons_zero, Option.bind_some, List.setIfInBounds_toArray, List.set_cons_succ, List.set_cons_zero, Nat.reduceAdd]
        intro u hu E hE
        go_wp2
        exact hE
      simp only [Act.put, List.getElem?_toArray, List.getElem?_cons_succ, List.getElem?_cons_zero, Option.bind_some, List.setIfInBounds_toArray, List.set_cons_succ, List.set_cons_zero, Nat.reduceAdd]
      refine chainP_one ?_
      intro E hE
      have HDR := Lib.hid (dis_store (f := 2) (t := (atomT (s ++ t))) hrd HIC.out HSC.out)
      go_wp2_with (refine wpList_store_row rfl 35 (.tmp 5) (.tmp 15) rfl (W0.heap.size) #[.bool true, .slice p1 1 r1, .slice p2 1 r2, .int .i64 0, .int .i64 0, .string ⟨#[]⟩, .slice none 0 0] rfl rfl _ _ hrd size_did rfl (by simp [Value.oneCell']) ?_)
      have hfin := below_row (cs := #[.bool true, .slice p1 1 r1, .slice p2 1 r2, .int .i64 0, .int .i64 0, .string ⟨#[]⟩, .slice none 0 0]) hx4 hgl
      refine ⟨hfin, ?_⟩
      refine chainP_softv (.int .i64 0) (by kernel_rfl) (by kernel_rfl) ?_ ?_
      · simp only [Act.put, List.getElem?_toArray, List.getElem?_cons_succ, List.getElem?_cons_zero, Option.bind_some, List.setIfInBounds_toArray, List.set_cons_succ, List.set_cons_zero, Nat.reduceAdd]
        intro u hu E hE
        go_wp2
        exact hE
      simp only [Act.put, List.getElem?_toArray, List.getElem?_cons_succ, List.getElem?_cons_zero, Option.bind_some, List.setIfInBounds_toArray, List.set_cons_succ, List.set_cons_zero, Nat.reduceAdd]
      have HFIN := Lib.hid hfin
      clear hrd HIC HSC hfin
      refine chainP_nil (rest_end (by decide) ?_)
      go_wp2
      go_meet
      exact ⟨_, rfl, rfl, HDR.out, row_on HR4.out HFIN.out, HBW.out.trans (HFIN.out.mono HBW.out.size)⟩
  case rest =>
  obtain ⟨g, rfl, rfl, hd6, hr4, hbw⟩ := hcut
  clear HK
  obtain ⟨q, k, q', k', r6, hi6, hs6⟩ := hd6
  obtain ⟨b0, b1, b2, b3, b4, b5, b6⟩ := row7 r6
  have HR4 := Lib.hid hr4
  have HBW := Lib.hid hbw
  clear hr4 hbw r6
  go_wp2_with fail
  refine (l16_only 2 (atomT (s ++ t)) q q' k k' (fun b => b ≠ g) wc hi6 hs6).mono ?_
  rintro e w5 ⟨b, d, he, hi7, hb5⟩
  replace he : e = .returned (.tuple #[.agg #[.int .i64 3, .int .i64 0, .string (s ++ t), .slice b 0 d], .bool true]) := he
  subst he
  have hr8 := heap_alloc_new w5 (.cells #[.int .i64 3, .int .i64 0, .string (s ++ t), .slice b 0 d] 28 (0, 0))
  have ha8 := (Below.refl w5.heap.size w5).alloc (Nat.le_refl _) (.cells #[.int .i64 3, .int .i64 0, .string (s ++ t), .slice b 0 d] 28 (0, 0))
  have hb8 := hb5.trans (ha8.mono hb5.size)
  have HR5 := Lib.hid (row_on HR4.out hb8)
  have HB5 := Lib.hid (HBW.out.trans (hb8.mono HBW.out.size))
  obtain ⟨y0, y1, y2, y3⟩ := row4 hr8
  have hlt := (Array.getElem?_eq_some_iff.1 hr8).1
  clear hb5 ha8 hb8 hi7 hi6 hs6 HR4 HBW b0 b1 b2 b3 b4 b5 b6
  go_wp2_with (with_reducible show wpList _ _ _ (⟨none, .store _ (.tmp 4) _, _, _, _, _⟩ :: _) _ _
               go_must (refine wpList_store_row rfl 28 (.tmp 4) (.tmp 26) rfl (w.heap.size + 2) #[.int .i64 3, .int .i64 0, .string (s ++ t), .slice b 0 d] rfl rfl _ _ HR5.out size_term rfl (one4 _ _ _ _ _ _) ?_))
  have hz := setRow_heap _ (w.heap.size + 2) _ (#[.int .i64 3, .int .i64 0, .string (s ++ t), .slice b 0 d] : Array Value) _ _ HR5.out
  exact bodyPost_ret (v := .agg #[.int .i64 3, .int .i64 0, .string (s ++ t), .slice b 0 d]) (results_cell_row Tryd.results21 _ _ (w.heap.size + 2) _ #[.int .i64 3, .int .i64 0, .string (s ++ t), .slice b 0 d] _ _ rfl hz Tryd.underlying28 rfl (by kernel_rfl)) rfl ⟨b, d, rfl, below_row HB5.out (by omega)⟩
theorem length_is3 (s t u : ByteArray) : lengthD (atomT (s ++ t ++ u)) (varT 0) = .is 1 (intT ((s.size : Int) + (t.size : Int) + (u.size : Int))) := by
  rw [length_is, ByteArray.size_append, ByteArray.size_append]
  simp only [Int.natCast_add]
theorem same_atom (x y : ByteArray) (h : x = y) : sameT (atomT x) (atomT y) = true := by subst h; unfold atomT sameT; simp [sameL]
theorem nil_app16 (s : ByteArray) : ⟨#[]⟩ ++ s = s := by apply ByteArray.ext; simp [ByteArray.data_append]
theorem app_nil16 (s : ByteArray) : s ++ ⟨#[]⟩ = s := by apply ByteArray.ext; simp [ByteArray.data_append]
set_option maxRecDepth 100000 in
set_option maxHeartbeats 16000000 in
theorem law_joins0 (s t u : ByteArray) (w : World) (ht : Num.Tab w) (h1 : s.size ≤ 300) (h2 : t.size ≤ 300) (h3 : u.size ≤ 300) :
    Calls Tryd.prog 6 #[.string s, .string t, .string u] w (Says true w) := by
  have HTB := Lib.hid ht
  have HSZ := Lib.hid (And.intro h1 (And.intro h2 h3))
  have g1 : decide ((300 : Int) < (s.size : Int)) = false := decide_eq_false (by omega)
  have g2 : decide ((300 : Int) < (t.size : Int)) = false := decide_eq_false (by omega)
  have g3 : decide ((300 : Int) < (u.size : Int)) = false := decide_eq_false (by omega)
  clear ht
  go_enter Tryd.func6, Tryd.ntmps6
  go_wp2_with fail
  refine (l16_alive _ HTB.out).mono ?_
  rintro e w1 ⟨rfl, hb1⟩
  have HB := Lib.hid hb1
  clear hb1
  go_wp2_with fail
  refine (l16_a _ _).mono ?_
  rintro e x1 ⟨rfl, hbn⟩
  replace HB := Lib.hid (HB.out.trans (hbn.mono HB.out.size))
  clear hbn
  go_wp2_with fail
  refine (l16_a _ _).mono ?_
  rintro e x2 ⟨rfl, hbn⟩
  replace HB := Lib.hid (HB.out.trans (hbn.mono HB.out.size))
  clear hbn
  go_wp2_with fail
  refine (l16_join s t none none 0 0 _ (by have := HSZ.out; have a1 : (s ++ t).size = s.size + t.size := ByteArray.size_append; have a2 : (t ++ u).size = t.size + u.size := ByteArray.size_append; omega) (HTB.out.on HB.out)).mono ?_
  rintro e x3 ⟨b1, d1, rfl, hbn⟩
  replace HB := Lib.hid (HB.out.trans (hbn.mono HB.out.size))
  clear hbn
  go_wp2_with fail
  refine (l16_a _ _).mono ?_
  rintro e x4 ⟨rfl, hbn⟩
  replace HB := Lib.hid (HB.out.trans (hbn.mono HB.out.size))
  clear hbn
  go_wp2_with fail
  refine (l16_join (s ++ t) u b1 none d1 0 _ (by have := HSZ.out; have a1 : (s ++ t).size = s.size + t.size := ByteArray.size_append; have a2 : (t ++ u).size = t.size + u.size := ByteArray.size_append; omega) (HTB.out.on HB.out)).mono ?_
  rintro e x5 ⟨b2, d2, rfl, hbn⟩
  replace HB := Lib.hid (HB.out.trans (hbn.mono HB.out.size))
  clear hbn
  go_wp2_with fail
  refine (l16_a _ _).mono ?_
  rintro e x6 ⟨rfl, hbn⟩
  replace HB := Lib.hid (HB.out.trans (hbn.mono HB.out.size))
  clear hbn
  go_wp2_with fail
  refine (l16_a _ _).mono ?_
  rintro e x7 ⟨rfl, hbn⟩
  replace HB := Lib.hid (HB.out.trans (hbn.mono HB.out.size))
  clear hbn
  go_wp2_with fail
  refine (l16_a _ _).mono ?_
  rintro e x8 ⟨rfl, hbn⟩
  replace HB := Lib.hid (HB.out.trans (hbn.mono HB.out.size))
  clear hbn
  go_wp2_with fail
  refine (l16_join t u none none 0 0 _ (by have := HSZ.out; have a1 : (s ++ t).size = s.size + t.size := ByteArray.size_append; have a2 : (t ++ u).size = t.size + u.size := ByteArray.size_append; omega) (HTB.out.on HB.out)).mono ?_
  rintro e x9 ⟨b3, d3, rfl, hbn⟩
  replace HB := Lib.hid (HB.out.trans (hbn.mono HB.out.size))
  clear hbn
  go_wp2_with fail
  refine (l16_join s (t ++ u) none b3 0 d3 _ (by have := HSZ.out; have a1 : (s ++ t).size = s.size + t.size := ByteArray.size_append; have a2 : (t ++ u).size = t.size + u.size := ByteArray.size_append; omega) (HTB.out.on HB.out)).mono ?_
  rintro e x10 ⟨b4, d4, rfl, hbn⟩
  replace HB := Lib.hid (HB.out.trans (hbn.mono HB.out.size))
  clear hbn
  obtain ⟨k1, k2, k3, k4⟩ := two x10 (.cells #[.int .i64 3, .int .i64 0, .string (s ++ t ++ u), .slice b2 0 d2] 28 (0, 0)) (.cells #[.int .i64 3, .int .i64 0, .string (s ++ (t ++ u)), .slice b4 0 d4] 28 (0, 0))
  have HK := Lib.hid (And.intro k1 (And.intro k2 (And.intro k3 (HB.out.trans (k4.mono HB.out.size)))))
  clear k1 k2 k3 k4 HB
  go_upto_region 7 with fail
  generalize (x10.alloc (.cells #[.int .i64 3, .int .i64 0, .string (s ++ t ++ u), .slice b2 0 d2] 28 (0, 0))).alloc (.cells #[.int .i64 3, .int .i64 0, .string (s ++ (t ++ u)), .slice b4 0 d4] 28 (0, 0)) = W7 at *
  generalize x10.heap.size = p8 at *
  go_cut [10, 11] from 49 to 56 (fun v10 v11 wx => ∃ g, v10 = .pointer (some ⟨g, 0, none⟩) ∧ v11 = .int .i64 0 ∧ DIs 1 (intT ((s.size : Int) + (t.size : Int) + (u.size : Int))) g wx ∧ wx.heap[p8]? = some (.cells #[.int .i64 3, .int .i64 0, .string (s ++ t ++ u), .slice b2 0 d2] 28 (0, 0)) ∧ wx.heap[p8 + 1]? = some (.cells #[.int .i64 3, .int .i64 0, .string (s ++ (t ++ u)), .slice b4 0 d4] 28 (0, 0)) ∧ Below w.heap.size w wx)
  case first =>
    obtain ⟨hr8, hr9, hsz, hbw⟩ := HK.out
    clear HK hsz
    refine wp_region_rest (by kernel_rfl) ?_
    have hd := (Below.refl W7.heap.size W7).drew
    replace hr8 := row_on hr8 hd
    replace hr9 := row_on hr9 hd
    replace hbw := hbw.trans (hd.mono hbw.size)
    clear hd
    generalize W7.drew = W0 at *
    obtain ⟨y0, y1, y2, y3⟩ := row4 hr8
    have hlt := (Array.getElem?_eq_some_iff.1 hr8).1
    have HR8 := Lib.hid hr8
    have HR9 := Lib.hid hr9
    have HBW := Lib.hid hbw
    clear hbw hr8 hr9
    refine rest_chainP (fun u => Below W0.heap.size W0 u) 0 10 (.soft 0 (.two 1 7 (.two 2 7 (.two 3 7 (.soft 4 (.soft 5 (.soft 6 (.one 7 (.one 8 (.soft 9 .nil)))))) (.one 3 (.soft 4 (.soft 5 (.soft 6 (.one 8 (.soft 9 .nil))))))) (.one 2 (.one 3 (.soft 4 (.soft 5 (.soft 6 (.one 8 (.soft 9 .nil)))))))) (.one 1 (.one 2 (.one 3 (.soft 4 (.soft 5 (.soft 6 (.one 8 (.soft 9 .nil)))))))))) (.soft _ (.two _ _ (.two _ _ (.two _ _ (.soft _ (.soft _ (.soft _ (.one _ (.one _ (.soft _ .nil)))))) (.one _ (.soft _ (.soft _ (.soft _ (.one _ (.soft _ .nil))))))) (.one _ (.one _ (.soft _ (.soft _ (.soft _ (.one _ (.soft _ .nil)))))))) (.one _ (.one _ (.one _ (.soft _ (.soft _ (.soft _ (.one _ (.soft _ .nil)))))))))) ⟨rfl, ⟨rfl, rfl, ⟨rfl, rfl, ⟨rfl, rfl, ⟨rfl, ⟨rfl, ⟨rfl, ⟨rfl, ⟨rfl, ⟨rfl, trivial⟩⟩⟩⟩⟩⟩, ⟨rfl, ⟨rfl, ⟨rfl, ⟨rfl, ⟨rfl, ⟨rfl, trivial⟩⟩⟩⟩⟩⟩⟩, ⟨rfl, ⟨rfl, ⟨rfl, ⟨rfl, ⟨rfl, ⟨rfl, ⟨rfl, trivial⟩⟩⟩⟩⟩⟩⟩⟩, ⟨rfl, ⟨rfl, ⟨rfl, ⟨rfl, ⟨rfl, ⟨rfl, ⟨rfl, ⟨rfl, trivial⟩⟩⟩⟩⟩⟩⟩⟩⟩⟩ (by kernel_rfl) (by kernel_rfl) (by kernel_rfl) (by kernel_rfl) (.inl rfl) (Below.refl _ _) ?_
    have hb0 := Below.refl W0.heap.size W0
    refine chainP_soft (a1 := ?ma3) (by kernel_rfl) (by kernel_rfl) ?mh3 ?mr3
    case mh3 =>
      intro u hu E hE
      have c0 := (hu.cell (p := ⟨p8, 0, none⟩) hlt).trans y0
      have c1 := (hu.cell (p := ⟨p8, 1, none⟩) hlt).trans y1
      have c2 := (hu.cell (p := ⟨p8, 2, none⟩) hlt).trans y2
      have c3 := (hu.cell (p := ⟨p8, 3, none⟩) hlt).trans y3
      go_wp2
      rfl
    refine chainP_two ?_ ?_
    · intro E hE
      go_wp2_with (refine (l16_v _ _).mono ?_; rintro e x1 ⟨rfl, hbn⟩)
      have hx1 := hb0.trans (hbn.mono hb0.size)
      clear hbn
      refine ⟨hx1, ?_⟩
      refine chainP_two ?_ ?_
      · intro E hE
        go_wp2
        have hrw : IsSl (x1.alloc (.cells #[.int .i64 3, .int .i64 0, .string (s ++ t ++ u), .slice b2 0 d2, .int .i64 1, .int .i64 0, .string ⟨#[]⟩, .slice none 0 0] 28 (0, 0))) (fun b => b < 0 ∨ b = x1.heap.size) (.slice (some ⟨x1.heap.size, 0, none⟩) 2 2) [atomT (s ++ t ++ u), varT 0] := row2P (x := atomT (s ++ t ++ u)) (y := varT 0) (a := b2) (c := d2) (a' := none) (c' := 0) (atom_isA _ _ _ _ _) (var_is _ _ _) (Or.inr rfl)
        have hbn := (Below.refl x1.heap.size x1).alloc (Nat.le_refl _) (.cells #[.int .i64 3, .int .i64 0, .string (s ++ t ++ u), .slice b2 0 d2, .int .i64 1, .int .i64 0, .string ⟨#[]⟩, .slice none 0 0] 28 (0, 0))
        have hrl := (Array.getElem?_eq_some_iff.1 (heap_alloc_new x1 (.cells #[.int .i64 3, .int .i64 0, .string (s ++ t ++ u), .slice b2 0 d2, .int .i64 1, .int .i64 0, .string ⟨#[]⟩, .slice none 0 0] 28 (0, 0)))).1
        have hx2 := hx1.trans (hbn.mono hx1.size)
        clear hbn
        refine ⟨hx2, ?_⟩
        generalize hGx2 : x1.alloc (.cells #[.int .i64 3, .int .i64 0, .string (s ++ t ++ u), .slice b2 0 d2, .int .i64 1, .int .i64 0, .string ⟨#[]⟩, .slice none 0 0] 28 (0, 0)) = x2 at *
        clear hGx2
        refine chainP_two ?_ ?_
        · intro E hE
          go_wp2_with (refine (tx_Do_length [atomT (s ++ t ++ u), varT 0] (atomT (s ++ t ++ u)) (varT 0) _ _ _ _ hrw rfl (by intro t ht; simp only [List.mem_cons, List.not_mem_nil, or_false] at ht; rcases ht with rfl | rfl; (· exact atom_ck16 (by have := HSZ.out; have a1 : (s ++ t).size = s.size + t.size := ByteArray.size_append; have a2 : (s ++ t ++ u).size = (s ++ t).size + u.size := ByteArray.size_append; omega)); (· exact ⟨by decide, by decide +kernel⟩)) (by show Num.Fit 0; decide) (by decide) (by show (s ++ t ++ u).size ≤ _; have := HSZ.out; have a1 : (s ++ t).size = s.size + t.size := ByteArray.size_append; have a2 : (s ++ t ++ u).size = (s ++ t).size + u.size := ByteArray.size_append; omega) (by decide) (HTB.out.on (HBW.out.trans (hx2.mono HBW.out.size)))).mono ?_; rintro e x3 hdp; rw [length_is3] at hdp; obtain ⟨p1, r1, p2, r2, rfl, hic, hsc, hbn⟩ := hdp.is)
          clear hrw hdp
          have HIC := Lib.hid hic.any16
          have HSC := Lib.hid (hsc.imp (P' := AnyB) (fun _ _ => trivial) (fun _ _ _ => rfl))
          clear hrl
          clear hic hsc
          have hx3 := hx2.trans (hbn.mono hx2.size)
          clear hbn
          refine ⟨hx3, ?_⟩
          refine chainP_softv (.tuple #[.agg #[.bool true, .slice p1 1 r1, .slice p2 1 r2, .int .i64 0, .int .i64 0, .string ⟨#[]⟩, .slice none 0 0], .int .i64 0]) (by kernel_rfl) (by kernel_rfl) ?_ ?_
          · simp only [Act.put, List.getElem?_toArray, List.getElem?_cons_succ, List.getElem?_cons_zero, Option.bind_some, List.setIfInBounds_toArray, List.set_cons_succ, List.set_cons_zero, Nat.reduceAdd]
            intro u hu E hE
            go_wp2
            exact hE
          simp only [Act.put, List.getElem?_toArray, List.getElem?_cons_succ, List.getElem?_cons_zero, Option.bind_some, List.setIfInBounds_toArray, List.set_cons_succ, List.set_cons_zero, Nat.reduceAdd]
          refine chainP_softv (.agg #[.bool true, .slice p1 1 r1, .slice p2 1 r2, .int .i64 0, .int .i64 0, .string ⟨#[]⟩, .slice none 0 0]) (by kernel_rfl) (by kernel_rfl) ?_ ?_
          · simp only [Act.put, List.getElem?_toArray, List.getElem?_cons_succ, List.getElem?_cons_zero, Option.bind_some, List.setIfInBounds_toArray, List.set_cons_succ, List.set_cons_zero, Nat.reduceAdd]
            intro u hu E hE
            go_wp2
            exact hE
          simp only [Act.put, List.getElem?_toArray, List.getElem?_cons_succ, List.getElem?_cons_zero, Option.bind_some, List.setIfInBounds_toArray, List.set_cons_succ, List.set_cons_zero, Nat.reduceAdd]
          refine chainP_softv (.int .i64 0) (by kernel_rfl) (by kernel_rfl) ?_ ?_
          · simp only [Act.put, List.getElem?_toArray, List.getElem?_cons_succ, List.getElem?_cons_zero, Option.bind_some, List.setIfInBounds_toArray, List.set_cons_succ, List.set_cons_zero, Nat.reduceAdd]
            intro u hu E hE
            go_wp2
            exact hE
          simp only [Act.put, List.getElem?_toArray, List.getElem?_cons_succ, List.getElem?_cons_zero, Option.bind_some, List.setIfInBounds_toArray, List.set_cons_succ, List.set_cons_zero, Nat.reduceAdd]
          refine chainP_one ?_
          intro E hE
          go_wp2
          have hrd := heap_alloc_new x3 (.cells #[.bool false, .slice none 0 0, .slice none 0 0, .int .i64 0, .int .i64 0, .string ⟨#[]⟩, .slice none 0 0] 35 (0, 0))
          have hbn := (Below.refl x3.heap.size x3).alloc (Nat.le_refl _) (.cells #[.bool false, .slice none 0 0, .slice none 0 0, .int .i64 0, .int .i64 0, .string ⟨#[]⟩, .slice none 0 0] 35 (0, 0))
          have hgl : W0.heap.size ≤ x3.heap.size := hx3.size
          replace HIC := Lib.hid (HIC.out.ne16 (g := x3.heap.size) (fun b _ hlt => by omega))
          replace HSC := Lib.hid (HSC.out.ne16 (g := x3.heap.size) (fun b _ hlt => by omega))
          replace HIC := Lib.hid (HIC.out.below hbn)
          replace HSC := Lib.hid (HSC.out.below hbn)
          have hx4 := hx3.trans (hbn.mono hx3.size)
          clear hbn
          refine ⟨hx4, ?_⟩
          generalize hGx4 : x3.alloc (.cells #[.bool false, .slice none 0 0, .slice none 0 0, .int .i64 0, .int .i64 0, .string ⟨#[]⟩, .slice none 0 0] 35 (0, 0)) = x4 at *
          clear hGx4
          refine chainP_one ?_
          intro E hE
          have HDR := Lib.hid (dis_store (f := 1) (t := (intT ((s.size : Int) + (t.size : Int) + (u.size : Int)))) hrd HIC.out HSC.out)
          go_wp2_with (refine wpList_store_row rfl 35 (.tmp 10) (.tmp 54) rfl (x3.heap.size) #[.bool true, .slice p1 1 r1, .slice p2 1 r2, .int .i64 0, .int .i64 0, .string ⟨#[]⟩, .slice none 0 0] rfl rfl _ _ hrd size_did rfl (by simp [Value.oneCell']) ?_)
          have hfin := below_row (cs := #[.bool true, .slice p1 1 r1, .slice p2 1 r2, .int .i64 0, .int .i64 0, .string ⟨#[]⟩, .slice none 0 0]) hx4 hgl
          refine ⟨hfin, ?_⟩
          refine chainP_softv (.int .i64 0) (by kernel_rfl) (by kernel_rfl) ?_ ?_
          · simp only [Act.put, List.getElem?_toArray, List.getElem?_cons_succ, List.getElem?_cons_zero, Option.bind_some, List.setIfInBounds_toArray, List.set_cons_succ, List.set_cons_zero, Nat.reduceAdd]
            intro u hu E hE
            go_wp2
            exact hE
          simp only [Act.put, List.getElem?_toArray, List.getElem?_cons_succ, List.getElem?_cons_zero, Option.bind_some, List.setIfInBounds_toArray, List.set_cons_succ, List.set_cons_zero, Nat.reduceAdd]
          have HFIN := Lib.hid hfin
          clear hrd HIC HSC hfin
          refine chainP_nil (rest_end (by decide) ?_)
          go_wp2
          go_meet
          exact ⟨_, rfl, rfl, HDR.out, row_on HR8.out HFIN.out, row_on HR9.out HFIN.out, HBW.out.trans (HFIN.out.mono HBW.out.size)⟩
        · intro E hE
          go_wp2
          have hrd := heap_alloc_new x2 (.cells #[.bool false, .slice none 0 0, .slice none 0 0, .int .i64 0, .int .i64 0, .string ⟨#[]⟩, .slice none 0 0] 35 (0, 0))
          have hbn := (Below.refl x2.heap.size x2).alloc (Nat.le_refl _) (.cells #[.bool false, .slice none 0 0, .slice none 0 0, .int .i64 0, .int .i64 0, .string ⟨#[]⟩, .slice none 0 0] 35 (0, 0))
          have hgl : W0.heap.size ≤ x2.heap.size := hx2.size
          have hgr : x1.heap.size ≠ x2.heap.size := by omega
          replace hrw := hrw.below hbn
          replace hrl := Nat.lt_of_lt_of_le hrl hbn.size
          have hx3 := hx2.trans (hbn.mono hx2.size)
          clear hbn
          refine ⟨hx3, ?_⟩
          generalize hGx3 : x2.alloc (.cells #[.bool false, .slice none 0 0, .slice none 0 0, .int .i64 0, .int .i64 0, .string ⟨#[]⟩, .slice none 0 0] 35 (0, 0)) = x3 at *
          clear hGx3
          refine chainP_one ?_
          intro E hE
          go_wp2_with (refine (tx_Do_length [atomT (s ++ t ++ u), varT 0] (atomT (s ++ t ++ u)) (varT 0) _ _ _ _ hrw rfl (by intro t ht; simp only [List.mem_cons, List.not_mem_nil, or_false] at ht; rcases ht with rfl | rfl; (· exact atom_ck16 (by have := HSZ.out; have a1 : (s ++ t).size = s.size + t.size := ByteArray.size_append; have a2 : (s ++ t ++ u).size = (s ++ t).size + u.size := ByteArray.size_append; omega)); (· exact ⟨by decide, by decide +kernel⟩)) (by show Num.Fit 0; decide) (by decide) (by show (s ++ t ++ u).size ≤ _; have := HSZ.out; have a1 : (s ++ t).size = s.size + t.size := ByteArray.size_append; have a2 : (s ++ t ++ u).size = (s ++ t).size + u.size := ByteArray.size_append; omega) (by decide) (HTB.out.on (HBW.out.trans (hx3.mono HBW.out.size)))).mono ?_; rintro e x4 hdp; rw [length_is3] at hdp; obtain ⟨p1, r1, p2, r2, rfl, hic, hsc, hbn⟩ := hdp.is)
          clear hrw hdp
          have hgl0 := (Array.getElem?_eq_some_iff.1 hrd).1
          have HIC := Lib.hid (hic.ne16 (g := x2.heap.size) (fun b hb _ => by rcases hb with ⟨hb | hb, hb2⟩ | hb <;> omega))
          have HSC := Lib.hid (hsc.ne16 (g := x2.heap.size) (fun b hb _ => by rcases hb with ⟨hb | hb, hb2⟩ | hb <;> omega))
          clear hgl0 hgr hrl
          clear hic hsc
          replace hrd := row_on hrd hbn
          have hx4 := hx3.trans (hbn.mono hx3.size)
          clear hbn
          refine ⟨hx4, ?_⟩
          refine chainP_softv (.tuple #[.agg #[.bool true, .slice p1 1 r1, .slice p2 1 r2, .int .i64 0, .int .i64 0, .string ⟨#[]⟩, .slice none 0 0], .int .i64 0]) (by kernel_rfl) (by kernel_rfl) ?_ ?_
          · simp only [Act.put, List.getElem?_toArray, List.getElem?_cons_succ, List.getElem?_cons_zero, Option.bind_some, List.setIfInBounds_toArray, List.set_cons_succ, List.set_cons_zero, Nat.reduceAdd]
            intro u hu E hE
            go_wp2
            exact hE
          simp only [Act.put, List.getElem?_toArray, List.getElem?_cons_succ, List.getElem?_cons_zero, Option.bind_some, List.setIfInBounds_toArray, List.set_cons_succ, List.set_cons_zero, Nat.reduceAdd]
          refine chainP_softv (.agg #[.bool true, .slice p1 1 r1, .slice p2 1 r2, .int .i64 0, .int .i64 0, .string ⟨#[]⟩, .slice none 0 0]) (by kernel_rfl) (by kernel_rfl) ?_ ?_
          · simp only [Act.put, List.getElem?_toArray, List.getElem?_cons_succ, List.getElem?_cons_zero, Option.bind_some, List.setIfInBounds_toArray, List.set_cons_succ, List.set_cons_zero, Nat.reduceAdd]
            intro u hu E hE
            go_wp2
            exact hE
          simp only [Act.put, List.getElem?_toArray, List.getElem?_cons_succ, List.getElem?_cons_zero, Option.bind_some, List.setIfInBounds_toArray, List.set_cons_succ, List.set_cons_zero, Nat.reduceAdd]
          refine chainP_softv (.int .i64 0) (by kernel_rfl) (by kernel_rfl) ?_ ?_
          · simp only [Act.put, List.getElem?_toArray, List.getElem?_cons_succ, List.getElem?_cons_zero, Option.bind_some, List.setIfInBounds_toArray, List.set_cons_succ, List.set_cons_zero, Nat.reduceAdd]
            intro u hu E hE
            go_wp2
            exact hE
          simp only [Act.put, List.getElem?_toArray, List.getElem?_cons_succ, List.getElem?_cons_zero, Option.bind_some, List.setIfInBounds_toArray, List.set_cons_succ, List.set_cons_zero, Nat.reduceAdd]
          refine chainP_one ?_
          intro E hE
          have HDR := Lib.hid (dis_store (f := 1) (t := (intT ((s.size : Int) + (t.size : Int) + (u.size : Int)))) hrd HIC.out HSC.out)
          go_wp2_with (refine wpList_store_row rfl 35 (.tmp 10) (.tmp 54) rfl (x2.heap.size) #[.bool true, .slice p1 1 r1, .slice p2 1 r2, .int .i64 0, .int .i64 0, .string ⟨#[]⟩, .slice none 0 0] rfl rfl _ _ hrd size_did rfl (by simp [Value.oneCell']) ?_)
          have hfin := below_row (cs := #[.bool true, .slice p1 1 r1, .slice p2 1 r2, .int .i64 0, .int .i64 0, .string ⟨#[]⟩, .slice none 0 0]) hx4 hgl
          refine ⟨hfin, ?_⟩
          refine chainP_softv (.int .i64 0) (by kernel_rfl) (by kernel_rfl) ?_ ?_
          · simp only [Act.put, List.getElem?_toArray, List.getElem?_cons_succ, List.getElem?_cons_zero, Option.bind_some, List.setIfInBounds_toArray, List.set_cons_succ, List.set_cons_zero, Nat.reduceAdd]
            intro u hu E hE
            go_wp2
            exact hE
          simp only [Act.put, List.getElem?_toArray, List.getElem?_cons_succ, List.getElem?_cons_zero, Option.bind_some, List.setIfInBounds_toArray, List.set_cons_succ, List.set_cons_zero, Nat.reduceAdd]
          have HFIN := Lib.hid hfin
          clear hrd HIC HSC hfin
          refine chainP_nil (rest_end (by decide) ?_)
          go_wp2
          go_meet
          exact ⟨_, rfl, rfl, HDR.out, row_on HR8.out HFIN.out, row_on HR9.out HFIN.out, HBW.out.trans (HFIN.out.mono HBW.out.size)⟩
      · intro E hE
        go_wp2
        have hrd := heap_alloc_new x1 (.cells #[.bool false, .slice none 0 0, .slice none 0 0, .int .i64 0, .int .i64 0, .string ⟨#[]⟩, .slice none 0 0] 35 (0, 0))
        have hbn := (Below.refl x1.heap.size x1).alloc (Nat.le_refl _) (.cells #[.bool false, .slice none 0 0, .slice none 0 0, .int .i64 0, .int .i64 0, .string ⟨#[]⟩, .slice none 0 0] 35 (0, 0))
        have hgl : W0.heap.size ≤ x1.heap.size := hx1.size
        have hx2 := hx1.trans (hbn.mono hx1.size)
        clear hbn
        refine ⟨hx2, ?_⟩
        generalize hGx2 : x1.alloc (.cells #[.bool false, .slice none 0 0, .slice none 0 0, .int .i64 0, .int .i64 0, .string ⟨#[]⟩, .slice none 0 0] 35 (0, 0)) = x2 at *
        clear hGx2
        refine chainP_one ?_
        intro E hE
        go_wp2
        have hrw : IsSl (x2.alloc (.cells #[.int .i64 3, .int .i64 0, .string (s ++ t ++ u), .slice b2 0 d2, .int .i64 1, .int .i64 0, .string ⟨#[]⟩, .slice none 0 0] 28 (0, 0))) (fun b => b < 0 ∨ b = x2.heap.size) (.slice (some ⟨x2.heap.size, 0, none⟩) 2 2) [atomT (s ++ t ++ u), varT 0] := row2P (x := atomT (s ++ t ++ u)) (y := varT 0) (a := b2) (c := d2) (a' := none) (c' := 0) (atom_isA _ _ _ _ _) (var_is _ _ _) (Or.inr rfl)
        have hbn := (Below.refl x2.heap.size x2).alloc (Nat.le_refl _) (.cells #[.int .i64 3, .int .i64 0, .string (s ++ t ++ u), .slice b2 0 d2, .int .i64 1, .int .i64 0, .string ⟨#[]⟩, .slice none 0 0] 28 (0, 0))
        have hrl := (Array.getElem?_eq_some_iff.1 (heap_alloc_new x2 (.cells #[.int .i64 3, .int .i64 0, .string (s ++ t ++ u), .slice b2 0 d2, .int .i64 1, .int .i64 0, .string ⟨#[]⟩, .slice none 0 0] 28 (0, 0)))).1
        have hgr : x2.heap.size ≠ x1.heap.size := by have := (Array.getElem?_eq_some_iff.1 hrd).1; omega
        replace hrd := row_on hrd hbn
        have hx3 := hx2.trans (hbn.mono hx2.size)
        clear hbn
        refine ⟨hx3, ?_⟩
        generalize hGx3 : x2.alloc (.cells #[.int .i64 3, .int .i64 0, .string (s ++ t ++ u), .slice b2 0 d2, .int .i64 1, .int .i64 0, .string ⟨#[]⟩, .slice none 0 0] 28 (0, 0)) = x3 at *
        clear hGx3
        refine chainP_one ?_
        intro E hE
        go_wp2_with (refine (tx_Do_length [atomT (s ++ t ++ u), varT 0] (atomT (s ++ t ++ u)) (varT 0) _ _ _ _ hrw rfl (by intro t ht; simp only [List.mem_cons, List.not_mem_nil, or_false] at ht; rcases ht with rfl | rfl; (· exact atom_ck16 (by have := HSZ.out; have a1 : (s ++ t).size = s.size + t.size := ByteArray.size_append; have a2 : (s ++ t ++ u).size = (s ++ t).size + u.size := ByteArray.size_append; omega)); (· exact ⟨by decide, by decide +kernel⟩)) (by show Num.Fit 0; decide) (by decide) (by show (s ++ t ++ u).size ≤ _; have := HSZ.out; have a1 : (s ++ t).size = s.size + t.size := ByteArray.size_append; have a2 : (s ++ t ++ u).size = (s ++ t).size + u.size := ByteArray.size_append; omega) (by decide) (HTB.out.on (HBW.out.trans (hx3.mono HBW.out.size)))).mono ?_; rintro e x4 hdp; rw [length_is3] at hdp; obtain ⟨p1, r1, p2, r2, rfl, hic, hsc, hbn⟩ := hdp.is)
        clear hrw hdp
        have hgl0 := (Array.getElem?_eq_some_iff.1 hrd).1
        have HIC := Lib.hid (hic.ne16 (g := x1.heap.size) (fun b hb _ => by rcases hb with ⟨hb | hb, hb2⟩ | hb <;> omega))
        have HSC := Lib.hid (hsc.ne16 (g := x1.heap.size) (fun b hb _ => by rcases hb with ⟨hb | hb, hb2⟩ | hb <;> omega))
        clear hgl0 hgr hrl
        clear hic hsc
        replace hrd := row_on hrd hbn
        have hx4 := hx3.trans (hbn.mono hx3.size)
        clear hbn
        refine ⟨hx4, ?_⟩
        refine chainP_softv (.tuple #[.agg #[.bool true, .slice p1 1 r1, .slice p2 1 r2, .int .i64 0, .int .i64 0, .string ⟨#[]⟩, .slice none 0 0], .int .i64 0]) (by kernel_rfl) (by kernel_rfl) ?_ ?_
        · simp only [Act.put, List.getElem?_toArray, List.getElem?_cons_succ, List.getElem?_cons_zero, Option.bind_some, List.setIfInBounds_toArray, List.set_cons_succ, List.set_cons_zero, Nat.reduceAdd]
          intro u hu E hE
          go_wp2
          exact hE
        simp only [Act.put, List.getElem?_toArray, List.getElem?_cons_succ, List.getElem?_cons_zero, Option.bind_some, List.setIfInBounds_toArray, List.set_cons_succ, List.set_cons_zero, Nat.reduceAdd]
        refine chainP_softv (.agg #[.bool true, .slice p1 1 r1, .slice p2 1 r2, .int .i64 0, .int .i64 0, .string ⟨#[]⟩, .slice none 0 0]) (by kernel_rfl) (by kernel_rfl) ?_ ?_
        · simp only [Act.put, List.getElem?_toArray, List.getElem?_cons_succ, List.getElem?_cons_zero, Option.bind_some, List.setIfInBounds_toArray, List.set_cons_succ, List.set_cons_zero, Nat.reduceAdd]
          intro u hu E hE
          go_wp2
          exact hE
        simp only [Act.put, List.getElem?_toArray, List.getElem?_cons_succ, List.getElem?_cons_zero, Option.bind_some, List.setIfInBounds_toArray, List.set_cons_succ, List.set_cons_zero, Nat.reduceAdd]
        refine chainP_softv (.int .i64 0) (by kernel_rfl) (by kernel_rfl) ?_ ?_
        · simp only [Act.put, List.getElem?_toArray, List.getElem?_cons_succ, List.getElem?_cons_zero, Option.bind_some, List.setIfInBounds_toArray, List.set_cons_succ, List.set_cons_zero, Nat.reduceAdd]
          intro u hu E hE
          go_wp2
          exact hE
        simp only [Act.put, List.getElem?_toArray, List.getElem?_cons_succ, List.getElem?_cons_zero, Option.bind_some, List.setIfInBounds_toArray, List.set_cons_succ, List.set_cons_zero, Nat.reduceAdd]
        refine chainP_one ?_
        intro E hE
        have HDR := Lib.hid (dis_store (f := 1) (t := (intT ((s.size : Int) + (t.size : Int) + (u.size : Int)))) hrd HIC.out HSC.out)
        go_wp2_with (refine wpList_store_row rfl 35 (.tmp 10) (.tmp 54) rfl (x1.heap.size) #[.bool true, .slice p1 1 r1, .slice p2 1 r2, .int .i64 0, .int .i64 0, .string ⟨#[]⟩, .slice none 0 0] rfl rfl _ _ hrd size_did rfl (by simp [Value.oneCell']) ?_)
        have hfin := below_row (cs := #[.bool true, .slice p1 1 r1, .slice p2 1 r2, .int .i64 0, .int .i64 0, .string ⟨#[]⟩, .slice none 0 0]) hx4 hgl
        refine ⟨hfin, ?_⟩
        refine chainP_softv (.int .i64 0) (by kernel_rfl) (by kernel_rfl) ?_ ?_
        · simp only [Act.put, List.getElem?_toArray, List.getElem?_cons_succ, List.getElem?_cons_zero, Option.bind_some, List.setIfInBounds_toArray, List.set_cons_succ, List.set_cons_zero, Nat.reduceAdd]
          intro u hu E hE
          go_wp2
          exact hE
        simp only [Act.put, List.getElem?_toArray, List.getElem?_cons_succ, List.getElem?_cons_zero, Option.bind_some, List.setIfInBounds_toArray, List.set_cons_succ, List.set_cons_zero, Nat.reduceAdd]
        have HFIN := Lib.hid hfin
        clear hrd HIC HSC hfin
        refine chainP_nil (rest_end (by decide) ?_)
        go_wp2
        go_meet
        exact ⟨_, rfl, rfl, HDR.out, row_on HR8.out HFIN.out, row_on HR9.out HFIN.out, HBW.out.trans (HFIN.out.mono HBW.out.size)⟩
    · intro E hE
      go_wp2
      have hrd := heap_alloc_new W0 (.cells #[.bool false, .slice none 0 0, .slice none 0 0, .int .i64 0, .int .i64 0, .string ⟨#[]⟩, .slice none 0 0] 35 (0, 0))
      have hbn := (Below.refl W0.heap.size W0).alloc (Nat.le_refl _) (.cells #[.bool false, .slice none 0 0, .slice none 0 0, .int .i64 0, .int .i64 0, .string ⟨#[]⟩, .slice none 0 0] 35 (0, 0))
      have hgl : W0.heap.size ≤ W0.heap.size := hb0.size
      have hx1 := hb0.trans (hbn.mono hb0.size)
      clear hbn
      refine ⟨hx1, ?_⟩
      generalize hGx1 : W0.alloc (.cells #[.bool false, .slice none 0 0, .slice none 0 0, .int .i64 0, .int .i64 0, .string ⟨#[]⟩, .slice none 0 0] 35 (0, 0)) = x1 at *
      clear hGx1
      refine chainP_one ?_
      intro E hE
      go_wp2_with (refine (l16_v _ _).mono ?_; rintro e x2 ⟨rfl, hbn⟩)
      replace hrd := row_on hrd hbn
      have hx2 := hx1.trans (hbn.mono hx1.size)
      clear hbn
      refine ⟨hx2, ?_⟩
      refine chainP_one ?_
      intro E hE
      go_wp2
      have hrw : IsSl (x2.alloc (.cells #[.int .i64 3, .int .i64 0, .string (s ++ t ++ u), .slice b2 0 d2, .int .i64 1, .int .i64 0, .string ⟨#[]⟩, .slice none 0 0] 28 (0, 0))) (fun b => b < 0 ∨ b = x2.heap.size) (.slice (some ⟨x2.heap.size, 0, none⟩) 2 2) [atomT (s ++ t ++ u), varT 0] := row2P (x := atomT (s ++ t ++ u)) (y := varT 0) (a := b2) (c := d2) (a' := none) (c' := 0) (atom_isA _ _ _ _ _) (var_is _ _ _) (Or.inr rfl)
      have hbn := (Below.refl x2.heap.size x2).alloc (Nat.le_refl _) (.cells #[.int .i64 3, .int .i64 0, .string (s ++ t ++ u), .slice b2 0 d2, .int .i64 1, .int .i64 0, .string ⟨#[]⟩, .slice none 0 0] 28 (0, 0))
      have hrl := (Array.getElem?_eq_some_iff.1 (heap_alloc_new x2 (.cells #[.int .i64 3, .int .i64 0, .string (s ++ t ++ u), .slice b2 0 d2, .int .i64 1, .int .i64 0, .string ⟨#[]⟩, .slice none 0 0] 28 (0, 0)))).1
      have hgr : x2.heap.size ≠ W0.heap.size := by have := (Array.getElem?_eq_some_iff.1 hrd).1; omega
      replace hrd := row_on hrd hbn
      have hx3 := hx2.trans (hbn.mono hx2.size)
      clear hbn
      refine ⟨hx3, ?_⟩
      generalize hGx3 : x2.alloc (.cells #[.int .i64 3, .int .i64 0, .string (s ++ t ++ u), .slice b2 0 d2, .int .i64 1, .int .i64 0, .string ⟨#[]⟩, .slice none 0 0] 28 (0, 0)) = x3 at *
      clear hGx3
      refine chainP_one ?_
      intro E hE
      go_wp2_with (refine (tx_Do_length [atomT (s ++ t ++ u), varT 0] (atomT (s ++ t ++ u)) (varT 0) _ _ _ _ hrw rfl (by intro t ht; simp only [List.mem_cons, List.not_mem_nil, or_false] at ht; rcases ht with rfl | rfl; (· exact atom_ck16 (by have := HSZ.out; have a1 : (s ++ t).size = s.size + t.size := ByteArray.size_append; have a2 : (s ++ t ++ u).size = (s ++ t).size + u.size := ByteArray.size_append; omega)); (· exact ⟨by decide, by decide +kernel⟩)) (by show Num.Fit 0; decide) (by decide) (by show (s ++ t ++ u).size ≤ _; have := HSZ.out; have a1 : (s ++ t).size = s.size + t.size := ByteArray.size_append; have a2 : (s ++ t ++ u).size = (s ++ t).size + u.size := ByteArray.size_append; omega) (by decide) (HTB.out.on (HBW.out.trans (hx3.mono HBW.out.size)))).mono ?_; rintro e x4 hdp; rw [length_is3] at hdp; obtain ⟨p1, r1, p2, r2, rfl, hic, hsc, hbn⟩ := hdp.is)
      clear hrw hdp
      have hgl0 := (Array.getElem?_eq_some_iff.1 hrd).1
      have HIC := Lib.hid (hic.ne16 (g := W0.heap.size) (fun b hb _ => by rcases hb with ⟨hb | hb, hb2⟩ | hb <;> omega))
      have HSC := Lib.hid (hsc.ne16 (g := W0.heap.size) (fun b hb _ => by rcases hb with ⟨hb | hb, hb2⟩ | hb <;> omega))
      clear hgl0 hgr hrl
      clear hic hsc
      replace hrd := row_on hrd hbn
      have hx4 := hx3.trans (hbn.mono hx3.size)
      clear hbn
      refine ⟨hx4, ?_⟩
      refine chainP_softv (.tuple #[.agg #[.bool true, .slice p1 1 r1, .slice p2 1 r2, .int .i64 0, .int .i64 0, .string ⟨#[]⟩, .slice none 0 0], .int .i64 0]) (by kernel_rfl) (by kernel_rfl) ?_ ?_
      · simp only [Act.put, List.getElem?_toArray, List.getElem?_cons_succ, List.getElem?_cons_zero, Option.bind_some, List.setIfInBounds_toArray, List.set_cons_succ, List.set_cons_zero, Nat.reduceAdd]
        intro u hu E hE
        go_wp2
        exact hE
      simp only [Act.put, List.getElem?_toArray, List.getElem?_cons_succ, List.getElem?_cons_zero, Option.bind_some, List.setIfInBounds_toArray, List.set_cons_succ, List.set_cons_zero, Nat.reduceAdd]
      refine chainP_softv (.agg #[.bool true, .slice p1 1 r1, .slice p2 1 r2, .int .i64 0, .int .i64 0, .string ⟨#[]⟩, .slice none 0 0]) (by kernel_rfl) (by kernel_rfl) ?_ ?_
      · simp only [Act.put, List.getElem?_toArray, List.getElem?_cons_succ, List.getElem?_cons_zero, Option.bind_some, List.setIfInBounds_toArray, List.set_cons_succ, List.set_cons_zero, Nat.reduceAdd]
        intro u hu E hE
        go_wp2
        exact hE
      simp only [Act.put, List.getElem?_toArray, List.getElem?_cons_succ, List.getElem?_cons_zero, Option.bind_some, List.setIfInBounds_toArray, List.set_cons_succ, List.set_cons_zero, Nat.reduceAdd]
      refine chainP_softv (.int .i64 0) (by kernel_rfl) (by kernel_rfl) ?_ ?_
      · simp only [Act.put, List.getElem?_toArray, List.getElem?_cons_succ, List.getElem?_cons_zero, Option.bind_some, List.setIfInBounds_toArray, List.set_cons_succ, List.set_cons_zero, Nat.reduceAdd]
        intro u hu E hE
        go_wp2
        exact hE
      simp only [Act.put, List.getElem?_toArray, List.getElem?_cons_succ, List.getElem?_cons_zero, Option.bind_some, List.setIfInBounds_toArray, List.set_cons_succ, List.set_cons_zero, Nat.reduceAdd]
      refine chainP_one ?_
      intro E hE
      have HDR := Lib.hid (dis_store (f := 1) (t := (intT ((s.size : Int) + (t.size : Int) + (u.size : Int)))) hrd HIC.out HSC.out)
      go_wp2_with (refine wpList_store_row rfl 35 (.tmp 10) (.tmp 54) rfl (W0.heap.size) #[.bool true, .slice p1 1 r1, .slice p2 1 r2, .int .i64 0, .int .i64 0, .string ⟨#[]⟩, .slice none 0 0] rfl rfl _ _ hrd size_did rfl (by simp [Value.oneCell']) ?_)
      have hfin := below_row (cs := #[.bool true, .slice p1 1 r1, .slice p2 1 r2, .int .i64 0, .int .i64 0, .string ⟨#[]⟩, .slice none 0 0]) hx4 hgl
      refine ⟨hfin, ?_⟩
      refine chainP_softv (.int .i64 0) (by kernel_rfl) (by kernel_rfl) ?_ ?_
      · simp only [Act.put, List.getElem?_toArray, List.getElem?_cons_succ, List.getElem?_cons_zero, Option.bind_some, List.setIfInBounds_toArray, List.set_cons_succ, List.set_cons_zero, Nat.reduceAdd]
        intro u hu E hE
        go_wp2
        exact hE
      simp only [Act.put, List.getElem?_toArray, List.getElem?_cons_succ, List.getElem?_cons_zero, Option.bind_some, List.setIfInBounds_toArray, List.set_cons_succ, List.set_cons_zero, Nat.reduceAdd]
      have HFIN := Lib.hid hfin
      clear hrd HIC HSC hfin
      refine chainP_nil (rest_end (by decide) ?_)
      go_wp2
      go_meet
      exact ⟨_, rfl, rfl, HDR.out, row_on HR8.out HFIN.out, row_on HR9.out HFIN.out, HBW.out.trans (HFIN.out.mono HBW.out.size)⟩
  case rest =>
  obtain ⟨g, rfl, rfl, hd6, hr8, hr9, hbw⟩ := hcut
  clear HK
  obtain ⟨q, k, q', k', r6, hi6, hs6⟩ := hd6
  obtain ⟨b0, b1', b2', b3', b4', b5, b6⟩ := row7 r6
  have HR8 := Lib.hid hr8
  have HR9 := Lib.hid hr9
  have HB := Lib.hid hbw
  clear hr8 hr9 hbw r6
  go_wp2_with fail
  refine (l16_only 1 (intT ((s.size : Int) + (t.size : Int) + (u.size : Int))) q q' k k' (fun b => b ≠ g) wc hi6 hs6).mono ?_
  rintro e w5 ⟨na, nc, he, hi7, hb5⟩
  replace he : e = .returned (.tuple #[.agg #[.int .i64 2, .int .i64 ((s.size : Int) + (t.size : Int) + (u.size : Int)), .string ⟨#[]⟩, .slice na 0 nc], .bool true]) := he
  subst he
  have hr10 := heap_alloc_new w5 (.cells #[.int .i64 2, .int .i64 ((s.size : Int) + (t.size : Int) + (u.size : Int)), .string ⟨#[]⟩, .slice na 0 nc] 28 (0, 0))
  have ha8 := (Below.refl w5.heap.size w5).alloc (Nat.le_refl _) (.cells #[.int .i64 2, .int .i64 ((s.size : Int) + (t.size : Int) + (u.size : Int)), .string ⟨#[]⟩, .slice na 0 nc] 28 (0, 0))
  have hb8 := hb5.trans (ha8.mono hb5.size)
  replace HB := Lib.hid (HB.out.trans (hb8.mono HB.out.size))
  have hr8 := row_on HR8.out hb8
  have hr9 := row_on HR9.out hb8
  obtain ⟨y0, y1, y2, y3⟩ := row4 hr8
  obtain ⟨z0, z1, z2, z3⟩ := row4 hr9
  have HR10 := Lib.hid hr10
  clear hb5 ha8 hb8 hi7 hi6 hs6 HR8 HR9 b0 b1' b2' b3' b4' b5 b6 hr8 hr9 hr10
  go_wp2_with fail
  generalize w5.alloc (.cells #[.int .i64 2, .int .i64 ((s.size : Int) + (t.size : Int) + (u.size : Int)), .string ⟨#[]⟩, .slice na 0 nc] 28 (0, 0)) = W8 at *
  generalize w5.heap.size = p12 at *
  refine (ref_same 5 (atomT (s ++ t ++ u)) (atomT (s ++ (t ++ u))) _ _ AnyB AnyB _ (by simp [atomT, Tm.size, sizeL]) (by simp [atomT, Tm.size, sizeL]) (atom_isA _ _ _ _ _) (atom_isA _ _ _ _ _)).mono ?_
  rintro e x1 ⟨rfl, hbn⟩
  rw [same_atom _ _ ByteArray.append_assoc]
  replace HB := Lib.hid (HB.out.trans (hbn.mono HB.out.size))
  obtain ⟨n0, n1, n2, n3⟩ := row4 (row_on HR10.out hbn)
  clear hbn y0 y1 y2 y3 z0 z1 z2 z3 HR10
  have hcast : wrap64 ((s.size : Int) + (t.size : Int)) = (s.size : Int) + (t.size : Int) := Num.wrap_in (by unfold Num.Fit; omega)
  have hcast2 : wrap64 (((s.size : Int) + (t.size : Int) + (u.size : Int))) = ((s.size : Int) + (t.size : Int) + (u.size : Int)) := Num.wrap_in (by unfold Num.Fit; omega)
  go_wp2_with fail
  refine (l16_a _ _).mono ?_
  rintro e x20 ⟨rfl, hbn⟩
  replace HB := Lib.hid (HB.out.trans (hbn.mono HB.out.size))
  clear hbn
  go_wp2_with fail
  refine (l16_a _ _).mono ?_
  rintro e x21 ⟨rfl, hbn⟩
  replace HB := Lib.hid (HB.out.trans (hbn.mono HB.out.size))
  clear hbn
  go_wp2_with fail
  refine (l16_join ⟨#[]⟩ s none none 0 0 _ (by have := HSZ.out; have a1 : (⟨#[]⟩ : ByteArray).size = 0 := rfl; omega) (HTB.out.on HB.out)).mono ?_
  rintro e x22 ⟨b5, d5, he, hbn⟩
  rw [nil_app16] at he
  subst he
  replace HB := Lib.hid (HB.out.trans (hbn.mono HB.out.size))
  clear hbn
  go_wp2_with fail
  refine (l16_a _ _).mono ?_
  rintro e x23 ⟨rfl, hbn⟩
  replace HB := Lib.hid (HB.out.trans (hbn.mono HB.out.size))
  clear hbn
  go_wp2_with fail
  refine (ref_same 5 (atomT s) (atomT s) _ _ AnyB AnyB _ (by simp [atomT, Tm.size, sizeL]) (by simp [atomT, Tm.size, sizeL]) (atom_isA _ _ _ _ _) (atom_is _ _ _)).mono ?_
  rintro e x24 ⟨rfl, hbn⟩
  rw [same_atom _ _ rfl]
  replace HB := Lib.hid (HB.out.trans (hbn.mono HB.out.size))
  clear hbn
  go_wp2_with fail
  refine (l16_a _ _).mono ?_
  rintro e x25 ⟨rfl, hbn⟩
  replace HB := Lib.hid (HB.out.trans (hbn.mono HB.out.size))
  clear hbn
  go_wp2_with fail
  refine (l16_a _ _).mono ?_
  rintro e x26 ⟨rfl, hbn⟩
  replace HB := Lib.hid (HB.out.trans (hbn.mono HB.out.size))
  clear hbn
  go_wp2_with fail
  refine (l16_join s ⟨#[]⟩ none none 0 0 _ (by have := HSZ.out; have a1 : (⟨#[]⟩ : ByteArray).size = 0 := rfl; omega) (HTB.out.on HB.out)).mono ?_
  rintro e x27 ⟨b6, d6, he, hbn⟩
  rw [app_nil16] at he
  subst he
  replace HB := Lib.hid (HB.out.trans (hbn.mono HB.out.size))
  clear hbn
  go_wp2_with fail
  refine (l16_a _ _).mono ?_
  rintro e x28 ⟨rfl, hbn⟩
  replace HB := Lib.hid (HB.out.trans (hbn.mono HB.out.size))
  clear hbn
  go_wp2_with fail
  refine (ref_same 5 (atomT s) (atomT s) _ _ AnyB AnyB _ (by simp [atomT, Tm.size, sizeL]) (by simp [atomT, Tm.size, sizeL]) (atom_isA _ _ _ _ _) (atom_is _ _ _)).mono ?_
  rintro e x29 ⟨rfl, hbn⟩
  rw [same_atom _ _ rfl]
  replace HB := Lib.hid (HB.out.trans (hbn.mono HB.out.size))
  clear hbn
  go_wp2
  go_ret
  exact ⟨rfl, HB.out⟩
set_option maxRecDepth 100000 in
set_option maxHeartbeats 4000000 in
theorem law_joinsG (s t u : ByteArray) (w : World) (ht : Num.Tab w) (b1 b2 b3 : Bool) (g1 : decide ((300 : Int) < (s.size : Int)) = b1) (g2 : decide ((300 : Int) < (t.size : Int)) = b2) (g3 : decide ((300 : Int) < (u.size : Int)) = b3) (hb : (b1 || b2 || b3) = true) :
    Calls Tryd.prog 6 #[.string s, .string t, .string u] w (Says true w) := by
  have HTB := Lib.hid ht
  clear ht
  cases b1 <;> cases b2 <;> cases b3 <;> first
    | exact absurd hb (by decide)
    | (clear hb
       go_enter Tryd.func6, Tryd.ntmps6
       go_wp2_with fail
       refine (l16_alive _ HTB.out).mono ?_
       rintro e w1 ⟨rfl, hb1⟩
       have HB := Lib.hid hb1
       clear hb1
       go_wp2
       go_ret
       exact ⟨rfl, HB.out⟩)
theorem law_joins (s t u : ByteArray) (w : World) (ht : Num.Tab w) : Calls Tryd.prog 6 #[.string s, .string t, .string u] w (Says true w) := by
  by_cases h : s.size ≤ 300 ∧ t.size ≤ 300 ∧ u.size ≤ 300
  · exact law_joins0 s t u w ht h.1 h.2.1 h.2.2
  · refine law_joinsG s t u w ht _ _ _ rfl rfl rfl ?_
    simp only [Bool.or_eq_true, decide_eq_true_eq]
    omega
end Go.Proofs.YtkhchmgdaolojaaDoor.Tms
