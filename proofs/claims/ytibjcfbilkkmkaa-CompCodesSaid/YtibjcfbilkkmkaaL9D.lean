
/-
  Layer 19: CompCodes, walked over the program (printed by gen_l9d.py).
-/
import Derived.Test.YtibjcfbilkkmkaaPlk
import Derived.Test.YtibjcfbilkkmkaaAl9
import Derived.Deep.Cut
import Derived.Deep.CutRange
import Derived.Deep.DeepCutAuto
import Derived.Test.YtibjcfbilkkmkaaChd
namespace Go.Proofs.Ytibjcfbilkkmkaa.Tms
open Go Go.RowKit Go.Proofs.Ytibjcfbilkkmkaa.Reg Go.Proofs.Ytibjcfbilkkmkaa.Maps Go.Proofs.Ytibjcfbilkkmkaa.Rws Go.Proofs.Ytibjcfbilkkmkaa.Cod
set_option linter.unusedVariables false
set_option linter.unusedSimpArgs false

theorem back_bad {c : Cod} (h : (backE c).2.2 ≠ 0) : (backE c).1.k = 0 ∧ (backE c).2.1.k = 0 := by
  unfold backE at h ⊢
  split
  · exact ⟨rfl, rfl⟩
  · rename_i h1
    rw [if_neg h1] at h
    split
    · exact ⟨rfl, rfl⟩
    · rename_i h2
      rw [if_neg h2] at h
      exact absurd rfl h
theorem back_good {c : Cod} (h : (backE c).2.2 = 0) : check c = 0 ∧ backE c = (bkH c, bkB c, 0) := by
  unfold backE at h ⊢
  split at h
  · rename_i h1; exact absurd h h1
  · rename_i h1
    rw [if_neg h1]
    split at h
    · cases h
    · rename_i h2
      rw [if_neg h2]
      exact ⟨Decidable.byContradiction h1, rfl⟩
theorem keys_step (l : List Ins) (k : Nat) (h : k < l.length) : keysL (l.take (k + 1)) = if l[k].op = 3 then Maps.addB (keysL (l.take k)) l[k].a else keysL (l.take k) := by
  have e : l.take (k + 1) = l.take k ++ [l[k]] := List.take_succ_eq_append_getElem h
  have g : ∀ a b : List Ins, gI (a ++ b) = gI a ++ gI b := fun a b => by simp [gI, List.filter_append]
  unfold keysL
  rw [e, g, List.foldl_append, gI_cons]
  split <;> rfl
theorem keys_len (l : List Ins) : (keysL l).length ≤ l.length := by
  have key : ∀ (g ks : List Int), (g.foldl addK ks).length ≤ ks.length + g.length := by
    intro g
    induction g with
    | nil => intro ks; simp
    | cons x g ih =>
      intro ks
      have h1 := ih (addK ks x)
      have h2 : (addK ks x).length ≤ ks.length + 1 := by
        show (Maps.addB ks x).length ≤ _
        unfold Maps.addB
        split <;> simp
      simp only [List.foldl_cons, List.length_cons]
      omega
  have h := key (gI l) []
  have h2 : (gI l).length ≤ l.length := by unfold gI; rw [List.length_map]; exact List.length_filter_le _ _
  have h3 : (keysL l).length = ((gI l).foldl addK []).length := rfl
  simp only [List.length_nil] at h
  omega
def CcRel (W9 : World) (mb : Nat) (l : List Ins) (vi : Value) (wr : World) : Prop := ∃ k : Nat, k ≤ l.length ∧ vi = .int .i64 k ∧ BMap wr mb (keysL (l.take k)) ∧ Keeps W9 wr (fun b => b = mb)
set_option maxRecDepth 100000 in
set_option maxHeartbeats 4000000 in
theorem law_codes (c : Cod) (vs : Value) (w : World) (h3 : InsSl w vs c.l) : Calls Try.prog 4 #[codVal c vs] w (Says true w) := by
  obtain ⟨aq, cq, rfl⟩ := h3.form
  have HB0 := Lib.hid (below_new w (.cells #[.string c.name, .int .i64 c.args, .int .i64 c.slots, .int .i64 c.body, .slice aq c.l.length cq] 25 (0, 0)))
  have HCR0 := Lib.hid (heap_alloc_new w (.cells #[.string c.name, .int .i64 c.args, .int .i64 c.slots, .int .i64 c.body, .slice aq c.l.length cq] 25 (0, 0)))
  have H3 := Lib.hid h3
  clear h3
  by_cases g3 : 1000 < c.l.length
  · skip
    have d3 : decide (1000 < (c.l.length : Int)) = true := by simp; omega
    go_enter Try.func4, Try.ntmps4
    go_wp2_with fail
    refine (l9_alive _).mono ?_; rintro e1 w1 ⟨rfl, hb1⟩; have HB := Lib.hid (HB0.out.trans (hb1.mono HB0.out.size)); have HCR := Lib.hid (row_on HCR0.out hb1); clear hb1
    obtain ⟨k0, k1, k2, k3, k4⟩ := row5 HCR.out
    go_wp2
    go_ret
    exact ⟨rfl, HB.out⟩
  have d3 : decide (1000 < (c.l.length : Int)) = false := by simp; omega
  have hcl : c.l.length ≤ 1000 := by omega
  go_enter Try.func4, Try.ntmps4
  go_wp2_with fail
  refine (l9_alive _).mono ?_; rintro e1 w1 ⟨rfl, hb1⟩; have HB := Lib.hid (HB0.out.trans (hb1.mono HB0.out.size)); have HCR := Lib.hid (row_on HCR0.out hb1); clear hb1
  obtain ⟨k0, k1, k2, k3, k4⟩ := row5 HCR.out
  go_wp2_with fail
  refine (to_any c _ _ (H3.out.below HB.out) (by omega)).mono ?_
  rintro e10 wh ⟨vt, rfl, hit, hbq⟩
  replace HCR := Lib.hid (row_on HCR.out hbq)
  replace HB := Lib.hid (HB.out.trans (hbq.mono HB.out.size))
  clear hbq k0 k1 k2 k3 k4
  obtain ⟨r1, r2, r3, hr⟩ : ∃ r1 r2 r3, backE c = (r1, r2, r3) := ⟨_, _, _, rfl⟩
  have HR := Lib.hid hr
  clear hr
  go_wp2_with fail
  refine (go_Back c _ _ hit).mono ?_
  rintro ewi wi ⟨axP, cxP, ayP, cyP, rfl, hi1, hi2, hbq⟩
  rw [HR.out] at hi1 hi2 ⊢
  simp only at hi1 hi2 ⊢
  replace HCR := Lib.hid (row_on HCR.out hbq)
  replace HB := Lib.hid (HB.out.trans (hbq.mono HB.out.size))
  have IP1 := Lib.hid hi1.any
  have IP2 := Lib.hid hi2.any
  clear hi1 hi2 hbq hit
  go_upto_region 6 with fail
  obtain ⟨t0, t1, tsz, tbl⟩ := two wi (.cells #[.int .i64 r1.k, .int .i64 r1.n, .string r1.s, .slice axP r1.args.length cxP] 30 (0, 0)) (.cells #[.int .i64 r2.k, .int .i64 r2.n, .string r2.s, .slice ayP r2.args.length cyP] 30 (0, 0))
  replace HCR := Lib.hid (row_on HCR.out tbl)
  replace IP1 := Lib.hid (IP1.out.below tbl)
  replace IP2 := Lib.hid (IP2.out.below tbl)
  replace HB := Lib.hid (HB.out.trans (tbl.mono HB.out.size))
  have RP1 := Lib.hid t0
  have RP2 := Lib.hid t1
  clear t0 t1 tsz tbl
  generalize (wi.alloc (.cells #[.int .i64 r1.k, .int .i64 r1.n, .string r1.s, .slice axP r1.args.length cxP] 30 (0, 0))).alloc (.cells #[.int .i64 r2.k, .int .i64 r2.n, .string r2.s, .slice ayP r2.args.length cyP] 30 (0, 0)) = Wi at *
  by_cases e0 : r3 = 0
  case neg =>
    have p1 : (r3 != 0) = true := by simpa using e0
    have hbd := back_bad (c := c) (by rw [HR.out]; exact e0)
    rw [HR.out] at hbd
    obtain ⟨q1, q2⟩ := hbd
    simp only at q1 q2
    obtain ⟨x0, x1, x2, x3⟩ := row4 RP1.out
    obtain ⟨y0, y1, y2, y3⟩ := row4 RP2.out
    rw [q1] at x0
    rw [q2] at y0
    clear e0 q1 q2
    go_wp2
    go_ret
    exact ⟨rfl, HB.out⟩
  subst e0
  obtain ⟨hck, hbg⟩ := back_good (c := c) (by rw [HR.out])
  obtain ⟨c', hc1, hc2, hc3, hc4, hc5, hc6, hc7⟩ := code_again c hck hcl
  rw [HR.out] at hbg
  simp only [Prod.mk.injEq, and_true] at hbg
  obtain ⟨e1_, e2_⟩ := hbg
  rw [← e1_, ← e2_] at hc1
  obtain ⟨nm, ar, sl, bo, l'⟩ := c'
  simp only at hc2 hc3 hc4 hc5 hc6
  subst hc3
  subst hc4
  subst hc5
  subst hc6
  have HC1 := Lib.hid hc1
  have HC2 := Lib.hid hc2
  have HC7 := Lib.hid hc7
  have hsz1 : r1.size ≤ 1000000 ∧ r2.size ≤ 1000000 := by
    obtain ⟨A, j, s, hok⟩ := check_facts hck
    have hl := hok.len
    have ha := hok.all
    have h1 := (take_size9 c.l.length).2 c.args.toNat c.l c.slots A hok.sk (by omega)
    have hr := (take_rest c.l.length).2 c.args.toNat c.l c.slots A hok.sk (by omega)
    have h2 := (take_size9 c.l.length).1 (c.l.drop A) (bkA c).2.2 j hok.rest (by omega)
    have h1 : sizeL (bkA c).1 ≤ A := h1
    have e : (bkA c).2.1 = c.l.drop A := hr
    rw [e1_, e2_]
    refine ⟨?_, ?_⟩
    · unfold bkH
      split
      · simp only [compT, Tm.size]; omega
      · simp [atomT, Tm.size, sizeL]
    · unfold bkB
      rw [e]
      omega
  obtain ⟨hs1, hs2⟩ := hsz1
  clear hck e1_ e2_ hc1 hc2 hc7
  obtain ⟨x0, x1, x2, x3⟩ := row4 RP1.out
  obtain ⟨y0, y1, y2, y3⟩ := row4 RP2.out
  go_wp2_with fail
  clear x0 x1 x2 x3 y0 y1 y2 y3
  refine (go_Compile r1 r2 _ _ _ _ _ (by omega) (by omega) IP1.out IP2.out).mono ?_
  rintro ewj wj ⟨vsj, rfl, hi, hbq⟩
  rw [HC1.out] at hi ⊢
  simp only at hi ⊢
  obtain ⟨asj, csj, rfl⟩ := hi.form
  rw [HC2.out]
  replace HCR := Lib.hid (row_on HCR.out hbq)
  replace RP1 := Lib.hid (row_on RP1.out hbq)
  replace RP2 := Lib.hid (row_on RP2.out hbq)
  replace IP1 := Lib.hid (IP1.out.below hbq)
  replace IP2 := Lib.hid (IP2.out.below hbq)
  replace HB := Lib.hid (HB.out.trans (hbq.mono HB.out.size))
  have HI := Lib.hid hi
  clear hi hbq
  go_upto_region 9 with fail
  clear RP1 RP2 IP1 IP2
  have hbq := below_new wj (.cells #[.string c.name, .int .i64 c.args, .int .i64 (keysL c.l).length, .int .i64 c.body, .slice asj c.l.length csj] 38 (0, 0))
  have hq := heap_alloc_new wj (.cells #[.string c.name, .int .i64 c.args, .int .i64 (keysL c.l).length, .int .i64 c.body, .slice asj c.l.length csj] 38 (0, 0))
  replace HCR := Lib.hid (row_on HCR.out hbq)
  replace HI := Lib.hid (HI.out.below hbq)
  replace HB := Lib.hid (HB.out.trans (hbq.mono HB.out.size))
  have HX := Lib.hid hq
  have hzq : wj.heap.size < (wj.alloc (.cells #[.string c.name, .int .i64 c.args, .int .i64 (keysL c.l).length, .int .i64 c.body, .slice asj c.l.length csj] 38 (0, 0))).heap.size := by simp
  clear hbq hq
  generalize wj.alloc (.cells #[.string c.name, .int .i64 c.args, .int .i64 (keysL c.l).length, .int .i64 c.body, .slice asj c.l.length csj] 38 (0, 0)) = Wj at *
  have HWM : Hid (w.heap.size ≤ Wj.heap.size) := Lib.hid HB.out.size
  have HWJ : Hid (wj.heap.size < Wj.heap.size) := Lib.hid hzq
  have HNE : Hid (w.heap.size < Wj.heap.size) := Lib.hid (Array.getElem?_eq_some_iff.1 HCR.out).1
  clear hzq
  obtain ⟨x0, x1, x2, x3, x4⟩ := row5 HX.out
  obtain ⟨k0, k1, k2, k3, k4⟩ := row5 HCR.out
  go_upto_region 11 with fail
  clear x0 x1 x2 x3 x4 k0 k1 k2 k3 k4
  have HIJ := HI
  clear HI
  have hbq := below_new Wj (.map #[] 0)
  have hmp := BMap.made Wj
  have hbj := below_new Wj (.map #[] 0)
  have hk4 := (row5 (row_on HCR.out hbq)).2.2.2.2
  have hzj : (Wj.alloc (.map #[] 0)).heap.size = Wj.heap.size + 1 := by simp
  replace HCR := Lib.hid (row_on HCR.out hbq)
  replace HX := Lib.hid (row_on HX.out hbq)
  replace HB := Lib.hid (HB.out.trans (hbq.mono HB.out.size))
  have HM := Lib.hid hmp
  have HZJ := Lib.hid hzj
  clear hbq hmp hzj
  go_wp2_with (with_reducible show wpList _ _ _ (⟨some 72, _, _, _, _, _⟩ :: _) _ _
               refine wpList_imap_made rfl 52 rfl ?_)
  clear hk4
  generalize Wj.alloc (.map #[] 0) = W9 at *
  have hmb : Wj.heap.size < W9.heap.size := by have := HZJ.out; omega
  have HBJ := Lib.hid hbj
  clear hbj
  generalize hmbj : Wj.heap.size = mb at *
  have HMB := Lib.hid hmbj
  clear hmbj HZJ
  have hst : CcRel W9 mb c.l (.int .i64 0) W9 := ⟨0, Nat.zero_le _, rfl, HM.out, Keeps.refl _ _⟩
  have HST := Lib.hid hst
  have hwm : w.heap.size ≤ mb := HWM.out
  clear hst HM
  obtain ⟨gq, hins⟩ : ∃ gq, aq = gq := ⟨aq, rfl⟩
  subst hins
  go_loopw [76] (fun vi wr => CcRel W9 mb c.l vi wr) (fun vi _ => c.l.length - (intOf vi).toNat)
  case atStart => exact HST.out
  case round =>
    obtain ⟨k, hk, rfl, hm, hkp⟩ := hrel
    clear HST
    have HM := Lib.hid hm
    have HK := Lib.hid hkp
    have hzk := hkp.size
    clear hm hkp
    by_cases hkl : k < c.l.length
    · skip
      have hin : (k : Int) < (c.l.length : Int) := by omega
      have hin0 : (0 : Int) ≤ (k : Int) := by omega
      have hsl := H3.out
      obtain ⟨qa, qc, e', hins⟩ := hsl
      simp only [Value.slice.injEq, true_and] at e'
      obtain ⟨rfl, rfl⟩ := e'
      obtain ⟨gi, oi, rfl, hia⟩ := hins k hkl
      have hks := keys_step c.l k hkl
      have hgi := hia.lt
      obtain ⟨i0, i1, i2, i3⟩ := hia
      have hrd : ∀ o, wr.cell? ⟨gi, o, none⟩ = w.cell? ⟨gi, o, none⟩ := fun o => (World.cell?_of_block (a := ⟨gi, o, none⟩) (HK.out.block gi (by have := HB.out.size; omega) (by omega))).trans (HB.out.cell (p := ⟨gi, o, none⟩) hgi)
      have y0 := (hrd _).trans i0
      have y1 := (hrd _).trans i1
      have y2 := (hrd _).trans i2
      have y3 := (hrd _).trans i3
      clear hins i0 i1 i2 i3 hrd
      generalize c.l[k] = i at *
      have hbx := below_new wr (.cells #[.int .i64 i.op, .int .i64 i.a, .int .i64 i.n, .string i.s] 54 (0, 0))
      have hgx := heap_alloc_new wr (.cells #[.int .i64 i.op, .int .i64 i.a, .int .i64 i.n, .string i.s] 54 (0, 0))
      have hzx : (wr.alloc (.cells #[.int .i64 i.op, .int .i64 i.a, .int .i64 i.n, .string i.s] 54 (0, 0))).heap.size = wr.heap.size + 1 := by simp
      have HKX := Lib.hid (HK.out.trans (Keeps.of hbx) (M' := fun b => b = mb) fun b e => .inl e)
      have hmx := HM.out.below (hbx.block mb HM.out.lt)
      have HMX := Lib.hid hmx
      have HGX := Lib.hid hgx
      have HKS := Lib.hid hks
      have HZX := Lib.hid hzx
      clear hbx hgx hmx hks hzx
      go_upto_region 15 with fail
      generalize wr.alloc (.cells #[.int .i64 i.op, .int .i64 i.a, .int .i64 i.n, .string i.s] 54 (0, 0)) = wx at *
      clear y0 y1 y2 y3
      obtain ⟨x0, x1, x2, x3⟩ := row4 HGX.out
      by_cases o3 : i.op = 3
      · skip
        have b3 : (i.op == 3) = true := by simp [o3]
        have HKS2 := Lib.hid (HKS.out.trans (if_pos o3))
        clear o3
        go_wp2_with (with_reducible show wpList _ _ _ (⟨none, .mapUpdate _ _ _ _, _, _, _, _⟩ :: _) _ _
                     refine wpList_bmap_set rfl 52 (.tmp 83) (.tmp 85) _ rfl 3 4 .i64 Try.underlying52 Try.underlying3 mb (keysL (c.l.take k)) rfl HMX.out i.a rfl rfl ?_
                     intro w10 hm10 hg10
                     have HF : Hid (CcRel W9 mb c.l (.int .i64 ((k + 1 : Nat) : Int)) w10) := Lib.hid ⟨k + 1, by omega, rfl, by rw [HKS2.out]; exact hm10, HKX.out.trans (Keeps.grown hg10 (M := fun b => b = mb) fun b e => .inl (Option.some.inj e).symm) fun b e => .inl e⟩
                     clear hm10 hg10)
        go_roundw
        case rel => exact (by simpa using HF.out)
        case measure => simp [intOf]; omega
      · skip
        have b3 : (i.op == 3) = false := by simpa using o3
        have HF : Hid (CcRel W9 mb c.l (.int .i64 ((k + 1 : Nat) : Int)) wx) := Lib.hid ⟨k + 1, by omega, rfl, by rw [HKS.out, if_neg o3]; exact HMX.out, HKX.out⟩
        clear o3
        go_wp2
        go_roundw
        case rel => exact (by simpa using HF.out)
        case measure => simp [intOf]; omega
    · skip
      obtain rfl : k = c.l.length := by omega
      have hin : decide ((c.l.length : Int) < (c.l.length : Int)) = false := by simp
      have hm := HM.out
      rw [List.take_length] at hm
      have HM2 := Lib.hid hm
      clear hm HM
      have hkr : ∀ b, b < W9.heap.size → b ≠ mb → wr.heap[b]? = W9.heap[b]? := fun b h1 h2 => HK.out.block b h1 h2
      have hcr := (hkr _ (Array.getElem?_eq_some_iff.1 HCR.out).1 (by intro e; have := HNE.out; omega)).trans HCR.out
      have hxr := (hkr _ (Array.getElem?_eq_some_iff.1 HX.out).1 (by have := HWJ.out; omega)).trans HX.out
      have hbl : Below w.heap.size w wr := ⟨HK.out.os.trans HB.out.os, HK.out.tape.trans HB.out.tape, HK.out.output.trans HB.out.output, Nat.le_trans HB.out.size HK.out.size, fun b hb => (hkr b (by have := HB.out.size; omega) (by omega)).trans (HB.out.block b hb)⟩
      have hbw : Below Wj.heap.size Wj wr := by
        rw [HMB.out]
        exact ⟨HK.out.os.trans HBJ.out.os, HK.out.tape.trans HBJ.out.tape, HK.out.output.trans HBJ.out.output, by have := HBJ.out.size; have := HMB.out; omega, fun b hb => (hkr b (by omega) (by omega)).trans (HBJ.out.block b hb)⟩
      have hxi := HIJ.out.below hbw
      have HBL := Lib.hid hbl
      have HCX := Lib.hid hcr
      have HXR := Lib.hid hxr
      have HXI := Lib.hid hxi
      clear hkr hcr hxr hbl hbw hxi HB HK HCR HX HIJ HBJ
      have hkl2 := keys_len c.l
      obtain ⟨k0, k1, k2, k3, k4⟩ := row5 HCX.out
      by_cases hks : ((keysL c.l).length : Int) < c.slots
      · skip
        have hd : decide (((keysL c.l).length : Int) < c.slots) = true := by simpa using hks
        clear hks
        generalize keysL c.l = ks at *
        obtain ⟨x0, x1, x2, x3, x4⟩ := row5 HXR.out
        have p9 : ((ks.length : Int) == (ks.length : Int)) = true := by simp
        go_wp2_with (first
          | (with_reducible show wpList _ _ _ (⟨some 88, _, _, _, _, _⟩ :: _) _ _
             refine wpList_bmap_len rfl (.tmp 87) 52 rfl _ _ Try.underlying52 mb _ rfl HM2.out ?_)
          | (with_reducible show wpList _ _ _ (⟨some 95, _, _, _, _, _⟩ :: _) _ _
             refine wpList_bmap_len rfl (.tmp 94) 52 rfl _ _ Try.underlying52 mb _ rfl HM2.out ?_))
        go_ret
        exact ⟨rfl, HBL.out⟩
      have hcc := HC7.out (by omega)
      have hcs : ((keysL c.l).length : Int) = c.slots := congrArg Cod.slots hcc
      have hcl9 : l' = c.l := congrArg Cod.l hcc
      subst hcl9
      have hxi := HXI.out
      rw [hcs] at hks
      replace HXR := Lib.hid (by have := HXR.out; rw [hcs] at this; exact this)
      have hd : decide (((keysL c.l).length : Int) < c.slots) = false := by rw [hcs]; simp
      clear hks hcc hcs HC7 HC1 HC2
      generalize keysL c.l = ks at *
      go_wp2_with (with_reducible show wpList _ _ _ (⟨some 88, _, _, _, _, _⟩ :: _) _ _
                   refine wpList_bmap_len rfl (.tmp 87) 52 rfl _ _ Try.underlying52 mb _ rfl HM2.out ?_)
      refine wp_region_rest (by kernel_rfl) ?_
      have hdr : Below wr.heap.size wr wr.drew := (Below.refl _ _).drew
      have HXI2 := Lib.hid (HXI.out.below hdr)
      have HC3 := Lib.hid (H3.out.below (HBL.out.trans (hdr.mono HBL.out.size)))
      have HB9 := Lib.hid (HBL.out.trans (hdr.mono HBL.out.size))
      have hx9 := row_on HXR.out hdr
      have hc9 := row_on HCX.out hdr
      clear hdr k0 k1 k2 k3 k4 HXI
      generalize wr.drew = W0 at *
      obtain ⟨x0, x1, x2, x3, x4⟩ := row5 hx9
      obtain ⟨k0, k1, k2, k3, k4⟩ := row5 hc9
      clear hx9 hc9
      refine rest_chain 0 5 [(false, [0, 2]), (true, [1]), (true, [3]), (false, [4])] [(false, [_, _]), (true, [_]), (true, [_]), (false, [_])] rfl (by kernel_rfl) (by kernel_rfl) rfl (by kernel_rfl) (by kernel_rfl) (.inl rfl) ?_
      refine chain_soft ?_
      intro E hE
      go_wp2
      clear x0 x1 x2 x3 x4 k0 k1 k2 k3 k4
      refine chain_one ?_
      intro E hE
      go_wp2_with (refine (from_any c _ _ HXI2.out (by omega)).mono ?_; rintro e8 wf ⟨vf, rfl, hif, hbf⟩; have HIF := Lib.hid hif; have HBF := Lib.hid hbf; clear hif hbf)
      refine ⟨HBF.out, ?_⟩
      replace HC3 := Lib.hid (HC3.out.below HBF.out)
      replace HB9 := Lib.hid (HB9.out.trans (HBF.out.mono HB9.out.size))
      refine chain_one ?_
      intro E hE
      go_wp2_with (refine (Cod.ref_same c _ _ _ HIF.out HC3.out (by omega)).mono ?_; rintro e9 wg ⟨rfl, hbg⟩; have HBG := Lib.hid hbg; clear hbg)
      refine ⟨HBG.out, ?_⟩
      replace HB9 := Lib.hid (HB9.out.trans (HBG.out.mono HB9.out.size))
      refine chain_soft ?_
      intro E hE
      go_wp2
      refine chain_nil (rest_end (by decide) ?_)
      go_wp2
      go_ret
      exact ⟨rfl, HB9.out⟩
end Go.Proofs.Ytibjcfbilkkmkaa.Tms
