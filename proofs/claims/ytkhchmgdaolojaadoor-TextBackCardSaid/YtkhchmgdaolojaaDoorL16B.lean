
/-
  The statements of layer 16: TextBack, walked over the program.
-/
import Derived.Test.YtkhchmgdaolojaaDoorL16J
import Derived.Test.YtkhchmgdaolojaaDoorRitm
import Derived.Handy
import Derived.LoopN
namespace Go.Proofs.YtkhchmgdaolojaaDoor.Tms
open Go Go.RowKit Go.Proofs.YtkhchmgdaolojaaDoor.Reg Go.Proofs.YtkhchmgdaolojaaDoor.Rws Go.Proofs.YtkhchmgdaolojaaDoor.Maps Go.Instr
set_option linter.unusedVariables false
set_option linter.unusedSimpArgs false

def textL (codes : Bool) (s : ByteArray) : Tm := listT (charsT codes s.data.toList) nilT
theorem spell_is (codes : Bool) (s : ByteArray) : spellD codes (atomT s) (varT 0) = .is 1 (textL codes s) := by
  unfold spellD
  rw [show nameT (atomT s) = some s from rfl]
  rfl
theorem spell_back (codes : Bool) {s : ByteArray} (h : s.size ≤ 400) : spellD codes (varT 0) (textL codes s) = .is 0 (atomT s) := by
  unfold spellD textL
  rw [show nameT (varT 0) = none from rfl]
  simp only []
  rw [if_neg (fun h => h rfl), text_list]
  simp only []
  rw [if_neg (by show ¬ (1000 < s.data.toList.length); rw [show s.data.toList.length = s.size from rfl]; omega)]
theorem textL_items (codes : Bool) (s : ByteArray) : itemsT (textL codes s) = (charsT codes s.data.toList, nilT) := by
  unfold textL
  rw [list_items, show itemsT nilT = ([], nilT) from by kernel_rfl]; simp
theorem textL_ok (codes : Bool) {s : ByteArray} (h : s.size ≤ 400) : (textL codes s).size ≤ 1000 ∧ checkT (textL codes s) = 0 ∧ Num.Fit (textL codes s).n ∧ (textL codes s).s.size ≤ 100000 := by
  have hl : s.data.toList.length = s.size := rfl
  have hz : (textL codes s).size = 2 * s.data.toList.length + 1 := text_size16 codes _
  exact ⟨by omega, check_zero (text_may16 codes _) (by omega), (text_head16 codes _).1, (text_head16 codes _).2⟩
theorem charsT_len (codes : Bool) (s : ByteArray) : (charsT codes s.data.toList).length = s.size := by unfold charsT; rw [List.length_map]; rfl
set_option maxRecDepth 100000 in
set_option maxHeartbeats 16000000 in
theorem law_back0 (s t : ByteArray) (w : World) (ht : Num.Tab w) (h1 : s.size ≤ 400) (h2 : t.size ≤ 400) :
    Calls Tryd.prog 4 #[.string s, .string t] w (Says true w) := by
  have HTB := Lib.hid ht
  have HSZ := Lib.hid (And.intro h1 h2)
  have g1 : decide ((400 : Int) < (s.size : Int)) = false := decide_eq_false (by omega)
  have g2 : decide ((400 : Int) < (t.size : Int)) = false := decide_eq_false (by omega)
  clear ht
  go_enter Tryd.func4, Tryd.ntmps4
  go_wp2_with fail
  refine (l16_alive _ HTB.out).mono ?_
  rintro e w1 ⟨rfl, hb1⟩
  have HB := Lib.hid hb1
  clear hb1
  go_wp2_with fail
  refine wp_loop_rounds 3 ?_
  rw [rounds_succ]
  have hix : ∀ W : World, (Instr.index 42 (.agg #[.string ⟨#[97, 116, 111, 109, 95, 99, 104, 97, 114, 115]⟩, .string ⟨#[97, 116, 111, 109, 95, 99, 111, 100, 101, 115]⟩]) (.int .i64 0)).run Tryd.prog W = .ok (.string ⟨#[97, 116, 111, 109, 95, 99, 104, 97, 114, 115]⟩) W := fun W => by kernel_rfl
  obtain ⟨L, HLq⟩ : ∃ L, L = textL false s := ⟨_, rfl⟩
  have HLS : Hid (L.size ≤ 1000000 ∧ checkT L = 0 ∧ Num.Fit L.n ∧ L.s.size ≤ 100000) := Lib.hid (by rw [HLq]; have := textL_ok false h1; exact ⟨by omega, this.2⟩)
  have HL1 := Lib.hid (show spellD false (atomT s) (varT 0) = .is 1 L by rw [HLq]; exact spell_is _ _)
  have HL2 := Lib.hid (show spellD false (varT 0) L = .is 0 (atomT s) by rw [HLq]; exact spell_back _ h1)
  have HLI := Lib.hid (show itemsT L = (charsT false s.data.toList, nilT) by rw [HLq]; exact textL_items _ _)
  clear HLq
  go_wp2_with fail
  refine (l16_a _ _).mono ?_
  rintro e x1 ⟨rfl, hbn⟩
  replace HB := Lib.hid (HB.out.trans (hbn.mono HB.out.size))
  clear hbn
  go_wp2_with fail
  refine (l16_v _ _).mono ?_
  rintro e x2 ⟨rfl, hbn⟩
  replace HB := Lib.hid (HB.out.trans (hbn.mono HB.out.size))
  clear hbn
  go_wp2_with fail
  have ha3 : Below x2.heap.size x2 (x2.alloc (.cells #[.int .i64 3, .int .i64 0, .string s, .slice none 0 0, .int .i64 1, .int .i64 0, .string ⟨#[]⟩, .slice none 0 0] 28 (0, 0))) := (Below.refl _ _).alloc (Nat.le_refl _) _
  have hr3 : IsSl (x2.alloc (.cells #[.int .i64 3, .int .i64 0, .string s, .slice none 0 0, .int .i64 1, .int .i64 0, .string ⟨#[]⟩, .slice none 0 0] 28 (0, 0))) AnyB (.slice (some ⟨x2.heap.size, 0, none⟩) 2 2) [atomT s, varT 0] := row2 (x := atomT s) (y := varT 0) (a := none) (a' := none) (c := 0) (c' := 0) (atom_is _ _ _) (var_is _ _ _)
  generalize (x2.alloc (.cells #[.int .i64 3, .int .i64 0, .string s, .slice none 0 0, .int .i64 1, .int .i64 0, .string ⟨#[]⟩, .slice none 0 0] 28 (0, 0))) = u3 at *
  replace HB := Lib.hid (HB.out.trans (ha3.mono HB.out.size))
  clear ha3
  refine (tx_Do_chars [atomT s, varT 0] (atomT s) (varT 0) AnyB u3 _ _ hr3 rfl (by intro t ht; simp only [List.mem_cons, List.not_mem_nil, or_false] at ht; rcases ht with rfl | rfl; (· exact atom_ck16 (by have := HSZ.out; omega)); (· exact ⟨by decide, by decide +kernel⟩)) (by show Num.Fit 0; decide) (by decide) (by have := HSZ.out; show s.size ≤ _; omega) (by decide) (HTB.out.on HB.out)).mono ?_
  rintro e w4 hd
  rw [HL1.out] at hd
  obtain ⟨q1, k1, q2, k2, rfl, hi, hs, hb4⟩ := hd.is
  replace HB := Lib.hid (HB.out.trans (hb4.mono HB.out.size))
  have ha5 := (Below.refl w4.heap.size w4).alloc (Nat.le_refl _) (.cells #[.bool true, .slice q1 1 k1, .slice q2 1 k2, .int .i64 0, .int .i64 0, .string ⟨#[]⟩, .slice none 0 0] 35 (0, 0))
  have HR7 := Lib.hid (heap_alloc_new w4 (.cells #[.bool true, .slice q1 1 k1, .slice q2 1 k2, .int .i64 0, .int .i64 0, .string ⟨#[]⟩, .slice none 0 0] 35 (0, 0)))
  have hi6 := (hi.below ha5).any16
  have hs6 := (hs.ne16 (g := w4.heap.size) (fun b _ hl => by omega)).below ha5
  have HW7 := Lib.hid HB.out.size
  replace HB := Lib.hid (HB.out.trans (ha5.mono HB.out.size))
  clear hi hs hb4 ha5 hd hr3 hix
  go_wp2_with fail
  generalize w4.alloc (.cells #[.bool true, .slice q1 1 k1, .slice q2 1 k2, .int .i64 0, .int .i64 0, .string ⟨#[]⟩, .slice none 0 0] 35 (0, 0)) = u5 at *
  generalize w4.heap.size = p7 at *
  refine (l16_only 1 L q1 q2 k1 k2 (fun b => b ≠ p7) _ hi6 hs6).mono ?_
  rintro e w5 ⟨la, lc, rfl, hi7, hb5⟩
  have hr8 := heap_alloc_new w5 (.cells #[.int .i64 L.k, .int .i64 L.n, .string L.s, .slice la L.args.length lc] 28 (0, 0))
  have ha8 := (Below.refl w5.heap.size w5).alloc (Nat.le_refl _) (.cells #[.int .i64 L.k, .int .i64 L.n, .string L.s, .slice la L.args.length lc] 28 (0, 0))
  have hb8 := hb5.trans (ha8.mono hb5.size)
  replace HR7 := Lib.hid (row_on HR7.out hb8)
  replace HB := Lib.hid (HB.out.trans (hb8.mono HB.out.size))
  have HI := Lib.hid (hi7.lt.below ha8)
  have HR9 := Lib.hid hr8
  obtain ⟨y0, y1, y2, y3⟩ := row4 hr8
  clear hb5 ha8 hb8 hi7 hi6 hs6 hr8
  go_wp2_with fail
  generalize w5.alloc (.cells #[.int .i64 L.k, .int .i64 L.n, .string L.s, .slice la L.args.length lc] 28 (0, 0)) = W6 at *
  generalize w5.heap.size = p9 at *
  refine (ref_items L _ _ _ (by have := HLS.out.1; omega) HI.out).mono ?_
  rintro e w6 ⟨v1, v2, rfl, hv1, hv2, hb6⟩
  rw [HLI.out] at hv1 hv2
  obtain ⟨va, vc, e1, -⟩ := hv1
  obtain ⟨ua, uc, e2⟩ := hv2.form
  replace e1 : v1 = .slice va s.size vc := by rw [e1, charsT_len]
  replace e2 : v2 = .agg #[.int .i64 3, .int .i64 0, .string ⟨#[91, 93]⟩, .slice ua 0 uc] := e2
  subst e1 e2
  clear hv2
  have hr12 := heap_alloc_new w6 (.cells #[.int .i64 3, .int .i64 0, .string ⟨#[91, 93]⟩, .slice ua 0 uc] 28 (0, 0))
  have ha12 := (Below.refl w6.heap.size w6).alloc (Nat.le_refl _) (.cells #[.int .i64 3, .int .i64 0, .string ⟨#[91, 93]⟩, .slice ua 0 uc] 28 (0, 0))
  have hb12 := hb6.trans (ha12.mono hb6.size)
  have hr5 := row_on HR9.out hb12
  have hr7 := row_on HR7.out hb12
  have hi8 := HI.out.below hb12
  have hbw := HB.out.trans (hb12.mono HB.out.size)
  clear HR9 HR7 HI HB hb6 ha12 hb12 y0 y1 y2 y3
  go_upto_region 13 with fail
  generalize w6.alloc (.cells #[.int .i64 3, .int .i64 0, .string ⟨#[91, 93]⟩, .slice ua 0 uc] 28 (0, 0)) = W7 at *
  generalize w6.heap.size = p12 at *
  have HS := Lib.hid (And.intro hr5 (And.intro hr7 (And.intro hi8 (And.intro hbw (And.intro hr12 HW7.out)))))
  clear hr5 hr7 hi8 hbw hr12 HW7
  go_cut [8] from 57 to 65 (fun v8 wx => v8 = .int .i64 0 ∧ DIs 0 (atomT s) p7 wx ∧ (p12 ≠ p7 → wx.heap[p12]? = some (.cells #[.int .i64 3, .int .i64 0, .string ⟨#[91, 93]⟩, .slice ua 0 uc] 28 (0, 0))) ∧ Below w.heap.size w wx)
  case first =>
    obtain ⟨hr9, hrd, hi8, hbw, hr12, hw7⟩ := HS.out
    clear HS
    refine wp_region_rest (by kernel_rfl) ?_
    have hd := (Below.refl W7.heap.size W7).drew
    replace hr9 := row_on hr9 hd
    replace hrd := row_on hrd hd
    replace hr12 := row_on hr12 hd
    replace hbw := hbw.trans (hd.mono hbw.size)
    replace hi8 := hi8.below hd
    clear hd
    generalize W7.drew = W0 at *
    obtain ⟨y0, y1, y2, y3⟩ := row4 hr9
    have hlt := (Array.getElem?_eq_some_iff.1 hr9).1
    have HR12 := Lib.hid hr12
    have HBW := Lib.hid hbw
    have HI8 := Lib.hid hi8
    clear hr12 hbw hi8 hr9
    refine rest_chainP (fun u => Below W0.heap.size W0 u) 0 4 (.soft 0 (.soft 2 (.one 1 (.one 3 .nil)))) (.soft _ (.soft _ (.one _ (.one _ .nil)))) ⟨rfl, ⟨rfl, ⟨rfl, ⟨rfl, trivial⟩⟩⟩⟩ (by kernel_rfl) (by kernel_rfl) (by kernel_rfl) (by kernel_rfl) (.inr (by kernel_rfl)) (Below.refl _ _) ?_
    have hb0 := Below.refl W0.heap.size W0
    refine chainP_soft (a1 := ?ma1) (by kernel_rfl) (by kernel_rfl) ?mh1 ?mr1
    case mh1 =>
      intro u hu E hE
      go_wp2
      rfl
    refine chainP_soft (a1 := ?ma2) (by kernel_rfl) (by kernel_rfl) ?mh2 ?mr2
    case mh2 =>
      intro u hu E hE
      have c0 := (hu.cell (p := ⟨p9, 0, none⟩) hlt).trans y0
      have c1 := (hu.cell (p := ⟨p9, 1, none⟩) hlt).trans y1
      have c2 := (hu.cell (p := ⟨p9, 2, none⟩) hlt).trans y2
      have c3 := (hu.cell (p := ⟨p9, 3, none⟩) hlt).trans y3
      go_wp2
      rfl
    refine chainP_one ?_
    intro E hE
    go_wp2_with (refine (l16_v _ _).mono ?_; rintro e x1 ⟨rfl, hbn⟩)
    have hx1 := hb0.trans (hbn.mono hb0.size)
    clear hbn
    refine ⟨hx1, ?_⟩
    refine chainP_one ?_
    intro E hE
    go_wp2
    have hgl0 := Nat.lt_of_lt_of_le (Array.getElem?_eq_some_iff.1 hrd).1 hx1.size
    have hrw : IsSl (x1.alloc (.cells #[.int .i64 1, .int .i64 0, .string ⟨#[]⟩, .slice none 0 0, .int .i64 L.k, .int .i64 L.n, .string L.s, .slice la L.args.length lc] 28 (0, 0))) (fun b => b ≠ p7) (.slice (some ⟨x1.heap.size, 0, none⟩) 2 2) [varT 0, L] := row2P (x := varT 0) (y := L) (a := none) (c := 0) (var_is _ _ _) ((HI8.out.below hx1).imp (fun b hb => hb.1.1) fun _ _ _ => rfl) (by have := hgl0; omega)
    have hbn := (Below.refl x1.heap.size x1).alloc (Nat.le_refl _) (.cells #[.int .i64 1, .int .i64 0, .string ⟨#[]⟩, .slice none 0 0, .int .i64 L.k, .int .i64 L.n, .string L.s, .slice la L.args.length lc] 28 (0, 0))
    clear hgl0
    have hx2 := hx1.trans (hbn.mono hx1.size)
    clear hbn
    refine ⟨hx2, ?_⟩
    generalize hGx2 : x1.alloc (.cells #[.int .i64 1, .int .i64 0, .string ⟨#[]⟩, .slice none 0 0, .int .i64 L.k, .int .i64 L.n, .string L.s, .slice la L.args.length lc] 28 (0, 0)) = x2 at *
    clear hGx2
    refine chainP_nil ?_
    refine rest_lineL 4 5 [_] rfl (by kernel_rfl) (by decide) (by decide) (by kernel_rfl) ?_
    go_wp2_with fail
    refine (tx_Do_chars [varT 0, L] (varT 0) L _ _ _ _ hrw rfl (by intro t ht; simp only [List.mem_cons, List.not_mem_nil, or_false] at ht; rcases ht with rfl | rfl; (· exact ⟨by decide, by decide +kernel⟩); (· exact ⟨HLS.out.1, HLS.out.2.1⟩)) (by decide) HLS.out.2.2.1 (by decide) HLS.out.2.2.2 (HTB.out.on (HBW.out.trans (hx2.mono HBW.out.size)))).mono ?_
    rintro e x9 hdp
    rw [HL2.out] at hdp
    obtain ⟨p1, r1, p2, r2, rfl, hic, hsc, hb9⟩ := hdp.is
    have hgl0 := Nat.lt_of_lt_of_le (Array.getElem?_eq_some_iff.1 hrd).1 hx2.size
    have hx9 := hx2.trans (hb9.mono hx2.size)
    have HIC := Lib.hid (hic.ne16 (g := p7) (fun b hb _ => by rcases hb with hb | hb; (· exact hb.1); (· omega)))
    have HSC := Lib.hid (hsc.ne16 (g := p7) (fun b hb _ => by rcases hb with hb | hb; (· exact hb.1); (· omega)))
    have hrd9 := row_on hrd hx9
    have HX9 := Lib.hid hx9
    clear hdp hic hsc hb9 hrw hgl0 hx9
    go_wp2
    refine then_rest ?_
    refine rest_chainP (fun _ => True) 5 9 (.soft 5 (.soft 6 (.soft 7 (.one 8 .nil)))) (.soft _ (.soft _ (.soft _ (.one _ .nil)))) ⟨rfl, ⟨rfl, ⟨rfl, ⟨rfl, trivial⟩⟩⟩⟩ (by kernel_rfl) (by kernel_rfl) (by kernel_rfl) (by kernel_rfl) (.inr (by kernel_rfl)) trivial ?_
    refine chainP_softv (.tuple #[.agg #[.bool true, .slice p1 1 r1, .slice p2 1 r2, .int .i64 0, .int .i64 0, .string ⟨#[]⟩, .slice none 0 0], .int .i64 0]) (by kernel_rfl) (by kernel_rfl) ?_ ?_
    · simp only [Act.put, List.getElem?_toArray, List.getElem?_cons_succ, List.getElem?_cons_zero, Option.bind_some, List.setIfInBounds_toArray, List.set_cons_succ, List.set_cons_zero, Nat.reduceAdd]
      intro u hu E hE
      go_wp2
      exact hE
    simp only [Act.put, List.getElem?_toArray, List.getElem?_cons_succ, List.getElem?_cons_zero, Option.bind_some, List.setIfInBounds_toArray, List.set_cons_succ, List.set_cons_zero, Nat.reduceAdd]
    refine chainP_softv (.agg #[.bool true, .slice p1 1 r1, .slice p2 1 r2, .int .i64 0, .int .i64 0, .string ⟨#[]⟩, .slice none 0 0]) (by kernel_rfl) (by kernel_rfl) ?_ ?_
    · simp only [Act.put, List.getElem?_toArray, List.getElem?_cons_succ, List.getElem?_cons_zero, Option.bind_some, List.setIfInBounds_toArray, List.set_cons_succ, List.set_cons_zero, Nat.reduceAdd]
      intro u hu E hE
      go_wp2
      exact hE
    simp only [Act.put, List.getElem?_toArray, List.getElem?_cons_succ, List.getElem?_cons_zero, Option.bind_some, List.setIfInBounds_toArray, List.set_cons_succ, List.set_cons_zero, Nat.reduceAdd]
    refine chainP_softv (.int .i64 0) (by kernel_rfl) (by kernel_rfl) ?_ ?_
    · simp only [Act.put, List.getElem?_toArray, List.getElem?_cons_succ, List.getElem?_cons_zero, Option.bind_some, List.setIfInBounds_toArray, List.set_cons_succ, List.set_cons_zero, Nat.reduceAdd]
      intro u hu E hE
      go_wp2
      exact hE
    simp only [Act.put, List.getElem?_toArray, List.getElem?_cons_succ, List.getElem?_cons_zero, Option.bind_some, List.setIfInBounds_toArray, List.set_cons_succ, List.set_cons_zero, Nat.reduceAdd]
    refine chainP_one ?_
    intro E hE
    have HDR := Lib.hid (dis_store (f := 0) (t := (atomT s)) hrd9 HIC.out HSC.out)
    go_wp2_with (refine wpList_store_row rfl 35 (.tmp 7) (.tmp 63) rfl p7 #[.bool true, .slice p1 1 r1, .slice p2 1 r2, .int .i64 0, .int .i64 0, .string ⟨#[]⟩, .slice none 0 0] rfl rfl _ _ hrd9 size_did rfl (by simp [Value.oneCell']) ?_)
    refine chainP_nil ?_
    refine rest_lineL 9 10 [_] rfl (by kernel_rfl) (by decide) (by decide) (by kernel_rfl) ?_
    go_wp2
    refine then_rest (rest_end (by decide) ?_)
    go_wp2
    go_meet
    exact ⟨rfl, HDR.out, fun hne => (setRow_other _ _ _ _ hne).trans (row_on HR12.out HX9.out), below_row (HBW.out.trans (HX9.out.mono HBW.out.size)) hw7⟩
  case rest =>
  obtain ⟨rfl, hd6, hr12, hbw⟩ := hcut
  have hne : p12 ≠ p7 := by
    intro h
    have h1 := HS.out.2.2.2.2.1
    rw [h, HS.out.2.1] at h1
    simp at h1
  replace hr12 := hr12 hne
  have HW7 := Lib.hid HS.out.2.2.2.2.2
  clear HS hne
  obtain ⟨q7, k7, q7', k7', r6, hi6, hs6⟩ := hd6
  obtain ⟨b0, b1, b2, b3, b4, b5, b6⟩ := row7 r6
  have HR12 := Lib.hid hr12
  have HBW := Lib.hid hbw
  clear hr12 hbw r6
  go_wp2_with fail
  refine (l16_only 0 (atomT s) q7 q7' k7 k7' (fun b => b ≠ p7) _ hi6 hs6).mono ?_
  rintro e w13 ⟨nb, mc, he, hi7, hb5⟩
  replace he : e = .returned (.tuple #[.agg #[.int .i64 3, .int .i64 0, .string s, .slice nb 0 mc], .bool true]) := he
  subst he
  have hr13 := heap_alloc_new w13 (.cells #[.int .i64 3, .int .i64 0, .string s, .slice nb 0 mc] 28 (0, 0))
  have ha8 := (Below.refl w13.heap.size w13).alloc (Nat.le_refl _) (.cells #[.int .i64 3, .int .i64 0, .string s, .slice nb 0 mc] 28 (0, 0))
  have hb8 := hb5.trans (ha8.mono hb5.size)
  have hr12 := row_on HR12.out hb8
  have hbw := HBW.out.trans (hb8.mono HBW.out.size)
  clear hb5 ha8 hb8 hi7 hi6 hs6 HR12 HBW b0 b1 b2 b3 b4 b5 b6
  go_upto_region 15 with fail
  generalize w13.alloc (.cells #[.int .i64 3, .int .i64 0, .string s, .slice nb 0 mc] 28 (0, 0)) = W9 at *
  generalize w13.heap.size = p13 at *
  refine wp_region_rest (by kernel_rfl) ?_
  have hd := (Below.refl W9.heap.size W9).drew
  replace hr12 := row_on hr12 hd
  replace hr13 := row_on hr13 hd
  replace hbw := hbw.trans (hd.mono hbw.size)
  clear hd
  generalize W9.drew = W0 at *
  obtain ⟨y0, y1, y2, y3⟩ := row4 hr12
  obtain ⟨z0, z1, z2, z3⟩ := row4 hr13
  have hlt := (Array.getElem?_eq_some_iff.1 hr12).1
  have hlt2 := (Array.getElem?_eq_some_iff.1 hr13).1
  have HBW := Lib.hid hbw
  clear hbw hr12 hr13
  refine rest_chainP (fun u => Below W0.heap.size W0 u) 0 21 (.soft 0 (.soft 1 (.soft 2 (.soft 3 (.soft 4 (.soft 5 (.soft 6 (.soft 7 (.soft 8 (.soft 9 (.soft 10 (.soft 11 (.soft 12 (.soft 13 (.soft 14 (.soft 15 (.soft 16 (.one 17 (.one 18 (.soft 19 (.soft 20 .nil))))))))))))))))))))) (.soft _ (.soft _ (.soft _ (.soft _ (.soft _ (.soft _ (.soft _ (.soft _ (.soft _ (.soft _ (.soft _ (.soft _ (.soft _ (.soft _ (.soft _ (.soft _ (.soft _ (.one _ (.one _ (.soft _ (.soft _ .nil))))))))))))))))))))) ⟨rfl, ⟨rfl, ⟨rfl, ⟨rfl, ⟨rfl, ⟨rfl, ⟨rfl, ⟨rfl, ⟨rfl, ⟨rfl, ⟨rfl, ⟨rfl, ⟨rfl, ⟨rfl, ⟨rfl, ⟨rfl, ⟨rfl, ⟨rfl, ⟨rfl, ⟨rfl, ⟨rfl, trivial⟩⟩⟩⟩⟩⟩⟩⟩⟩⟩⟩⟩⟩⟩⟩⟩⟩⟩⟩⟩⟩ (by kernel_rfl) (by kernel_rfl) (by kernel_rfl) (by kernel_rfl) (.inl rfl) (Below.refl _ _) ?_
  have hb0 := Below.refl W0.heap.size W0
  refine chainP_soft (a1 := ?ma3) (by kernel_rfl) (by kernel_rfl) ?mh3 ?mr3
  case mh3 =>
    intro u hu E hE
    go_wp2
    rfl
  refine chainP_soft (a1 := ?ma4) (by kernel_rfl) (by kernel_rfl) ?mh4 ?mr4
  case mh4 =>
    intro u hu E hE
    go_wp2
    rfl
  refine chainP_soft (a1 := ?ma5) (by kernel_rfl) (by kernel_rfl) ?mh5 ?mr5
  case mh5 =>
    intro u hu E hE
    go_wp2
    rfl
  refine chainP_soft (a1 := ?ma6) (by kernel_rfl) (by kernel_rfl) ?mh6 ?mr6
  case mh6 =>
    intro u hu E hE
    go_wp2
    rfl
  refine chainP_soft (a1 := ?ma7) (by kernel_rfl) (by kernel_rfl) ?mh7 ?mr7
  case mh7 =>
    intro u hu E hE
    go_wp2
    rfl
  refine chainP_soft (a1 := ?ma8) (by kernel_rfl) (by kernel_rfl) ?mh8 ?mr8
  case mh8 =>
    intro u hu E hE
    go_wp2
    rfl
  refine chainP_soft (a1 := ?ma9) (by kernel_rfl) (by kernel_rfl) ?mh9 ?mr9
  case mh9 =>
    intro u hu E hE
    go_wp2
    rfl
  refine chainP_soft (a1 := ?ma10) (by kernel_rfl) (by kernel_rfl) ?mh10 ?mr10
  case mh10 =>
    intro u hu E hE
    go_wp2
    rfl
  refine chainP_soft (a1 := ?ma11) (by kernel_rfl) (by kernel_rfl) ?mh11 ?mr11
  case mh11 =>
    intro u hu E hE
    go_wp2
    rfl
  refine chainP_soft (a1 := ?ma12) (by kernel_rfl) (by kernel_rfl) ?mh12 ?mr12
  case mh12 =>
    intro u hu E hE
    go_wp2
    rfl
  refine chainP_soft (a1 := ?ma13) (by kernel_rfl) (by kernel_rfl) ?mh13 ?mr13
  case mh13 =>
    intro u hu E hE
    go_wp2
    rfl
  refine chainP_soft (a1 := ?ma14) (by kernel_rfl) (by kernel_rfl) ?mh14 ?mr14
  case mh14 =>
    intro u hu E hE
    have c0 := (hu.cell (p := ⟨p12, 0, none⟩) hlt).trans y0
    have c1 := (hu.cell (p := ⟨p12, 1, none⟩) hlt).trans y1
    have c2 := (hu.cell (p := ⟨p12, 2, none⟩) hlt).trans y2
    have c3 := (hu.cell (p := ⟨p12, 3, none⟩) hlt).trans y3
    go_wp2
    rfl
  refine chainP_soft (a1 := ?ma15) (by kernel_rfl) (by kernel_rfl) ?mh15 ?mr15
  case mh15 =>
    intro u hu E hE
    go_wp2
    rfl
  refine chainP_soft (a1 := ?ma16) (by kernel_rfl) (by kernel_rfl) ?mh16 ?mr16
  case mh16 =>
    intro u hu E hE
    go_wp2
    rfl
  refine chainP_soft (a1 := ?ma17) (by kernel_rfl) (by kernel_rfl) ?mh17 ?mr17
  case mh17 =>
    intro u hu E hE
    go_wp2
    rfl
  refine chainP_soft (a1 := ?ma18) (by kernel_rfl) (by kernel_rfl) ?mh18 ?mr18
  case mh18 =>
    intro u hu E hE
    have c0 := (hu.cell (p := ⟨p13, 0, none⟩) hlt2).trans z0
    have c1 := (hu.cell (p := ⟨p13, 1, none⟩) hlt2).trans z1
    have c2 := (hu.cell (p := ⟨p13, 2, none⟩) hlt2).trans z2
    have c3 := (hu.cell (p := ⟨p13, 3, none⟩) hlt2).trans z3
    go_wp2
    rfl
  refine chainP_soft (a1 := ?ma19) (by kernel_rfl) (by kernel_rfl) ?mh19 ?mr19
  case mh19 =>
    intro u hu E hE
    go_wp2
    rfl
  refine chainP_one ?_
  intro E hE
  go_wp2_with (refine (l16_a _ _).mono ?_; rintro e x1 ⟨rfl, hbn⟩)
  have hx1 := hb0.trans (hbn.mono hb0.size)
  clear hbn
  refine ⟨hx1, ?_⟩
  refine chainP_one ?_
  intro E hE
  go_wp2_with (refine (ref_same 5 (atomT s) (atomT s) _ _ AnyB AnyB _ (by simp [atomT, Tm.size, sizeL]) (by simp [atomT, Tm.size, sizeL]) (atom_isA _ _ _ _ _) (atom_is _ _ _)).mono ?_; rintro e x2 ⟨rfl, hbn⟩; rw [same_atom s s rfl])
  have hx2 := hx1.trans (hbn.mono hx1.size)
  clear hbn
  refine ⟨hx2, ?_⟩
  refine chainP_soft (a1 := ?ma20) (by kernel_rfl) (by kernel_rfl) ?mh20 ?mr20
  case mh20 =>
    intro u hu E hE
    go_wp2
    rfl
  refine chainP_soft (a1 := ?ma21) (by kernel_rfl) (by kernel_rfl) ?mh21 ?mr21
  case mh21 =>
    intro u hu E hE
    go_wp2
    rfl
  refine chainP_nil (rest_end (by decide) ?_)
  have HB := Lib.hid (HBW.out.trans (hx2.mono HBW.out.size))
  generalize x2 = wz1 at *
  clear HBW
  clear y0 y1 y2 y3 z0 z1 z2 z3 hlt hlt2
  go_wp2_with fail
  clear HW7 HL1 HL2 HLS HLI
  rw [rounds_succ]
  have hix : ∀ W : World, (Instr.index 42 (.agg #[.string ⟨#[97, 116, 111, 109, 95, 99, 104, 97, 114, 115]⟩, .string ⟨#[97, 116, 111, 109, 95, 99, 111, 100, 101, 115]⟩]) (.int .i64 1)).run Tryd.prog W = .ok (.string ⟨#[97, 116, 111, 109, 95, 99, 111, 100, 101, 115]⟩) W := fun W => by kernel_rfl
  obtain ⟨L, HLq⟩ : ∃ L, L = textL true s := ⟨_, rfl⟩
  have HLS : Hid (L.size ≤ 1000000 ∧ checkT L = 0 ∧ Num.Fit L.n ∧ L.s.size ≤ 100000) := Lib.hid (by rw [HLq]; have := textL_ok true h1; exact ⟨by omega, this.2⟩)
  have HL1 := Lib.hid (show spellD true (atomT s) (varT 0) = .is 1 L by rw [HLq]; exact spell_is _ _)
  have HL2 := Lib.hid (show spellD true (varT 0) L = .is 0 (atomT s) by rw [HLq]; exact spell_back _ h1)
  have HLI := Lib.hid (show itemsT L = (charsT true s.data.toList, nilT) by rw [HLq]; exact textL_items _ _)
  clear HLq
  go_wp2_with fail
  refine (l16_a _ _).mono ?_
  rintro e x1 ⟨rfl, hbn⟩
  replace HB := Lib.hid (HB.out.trans (hbn.mono HB.out.size))
  clear hbn
  go_wp2_with fail
  refine (l16_v _ _).mono ?_
  rintro e x2 ⟨rfl, hbn⟩
  replace HB := Lib.hid (HB.out.trans (hbn.mono HB.out.size))
  clear hbn
  go_wp2_with fail
  have ha3 : Below x2.heap.size x2 (x2.alloc (.cells #[.int .i64 3, .int .i64 0, .string s, .slice none 0 0, .int .i64 1, .int .i64 0, .string ⟨#[]⟩, .slice none 0 0] 28 (0, 0))) := (Below.refl _ _).alloc (Nat.le_refl _) _
  have hr3 : IsSl (x2.alloc (.cells #[.int .i64 3, .int .i64 0, .string s, .slice none 0 0, .int .i64 1, .int .i64 0, .string ⟨#[]⟩, .slice none 0 0] 28 (0, 0))) AnyB (.slice (some ⟨x2.heap.size, 0, none⟩) 2 2) [atomT s, varT 0] := row2 (x := atomT s) (y := varT 0) (a := none) (a' := none) (c := 0) (c' := 0) (atom_is _ _ _) (var_is _ _ _)
  generalize (x2.alloc (.cells #[.int .i64 3, .int .i64 0, .string s, .slice none 0 0, .int .i64 1, .int .i64 0, .string ⟨#[]⟩, .slice none 0 0] 28 (0, 0))) = u3 at *
  replace HB := Lib.hid (HB.out.trans (ha3.mono HB.out.size))
  clear ha3
  refine (tx_Do_codes [atomT s, varT 0] (atomT s) (varT 0) AnyB u3 _ _ hr3 rfl (by intro t ht; simp only [List.mem_cons, List.not_mem_nil, or_false] at ht; rcases ht with rfl | rfl; (· exact atom_ck16 (by have := HSZ.out; omega)); (· exact ⟨by decide, by decide +kernel⟩)) (by show Num.Fit 0; decide) (by decide) (by have := HSZ.out; show s.size ≤ _; omega) (by decide) (HTB.out.on HB.out)).mono ?_
  rintro e w4 hd
  rw [HL1.out] at hd
  obtain ⟨q1, k1, q2, k2, rfl, hi, hs, hb4⟩ := hd.is
  replace HB := Lib.hid (HB.out.trans (hb4.mono HB.out.size))
  have ha5 := (Below.refl w4.heap.size w4).alloc (Nat.le_refl _) (.cells #[.bool true, .slice q1 1 k1, .slice q2 1 k2, .int .i64 0, .int .i64 0, .string ⟨#[]⟩, .slice none 0 0] 35 (0, 0))
  have HR7 := Lib.hid (heap_alloc_new w4 (.cells #[.bool true, .slice q1 1 k1, .slice q2 1 k2, .int .i64 0, .int .i64 0, .string ⟨#[]⟩, .slice none 0 0] 35 (0, 0)))
  have hi6 := (hi.below ha5).any16
  have hs6 := (hs.ne16 (g := w4.heap.size) (fun b _ hl => by omega)).below ha5
  have HW7 := Lib.hid HB.out.size
  replace HB := Lib.hid (HB.out.trans (ha5.mono HB.out.size))
  clear hi hs hb4 ha5 hd hr3 hix
  go_wp2_with fail
  generalize w4.alloc (.cells #[.bool true, .slice q1 1 k1, .slice q2 1 k2, .int .i64 0, .int .i64 0, .string ⟨#[]⟩, .slice none 0 0] 35 (0, 0)) = u5 at *
  generalize w4.heap.size = p7 at *
  refine (l16_only 1 L q1 q2 k1 k2 (fun b => b ≠ p7) _ hi6 hs6).mono ?_
  rintro e w5 ⟨la, lc, rfl, hi7, hb5⟩
  have hr8 := heap_alloc_new w5 (.cells #[.int .i64 L.k, .int .i64 L.n, .string L.s, .slice la L.args.length lc] 28 (0, 0))
  have ha8 := (Below.refl w5.heap.size w5).alloc (Nat.le_refl _) (.cells #[.int .i64 L.k, .int .i64 L.n, .string L.s, .slice la L.args.length lc] 28 (0, 0))
  have hb8 := hb5.trans (ha8.mono hb5.size)
  replace HR7 := Lib.hid (row_on HR7.out hb8)
  replace HB := Lib.hid (HB.out.trans (hb8.mono HB.out.size))
  have HI := Lib.hid (hi7.lt.below ha8)
  have HR9 := Lib.hid hr8
  obtain ⟨y0, y1, y2, y3⟩ := row4 hr8
  clear hb5 ha8 hb8 hi7 hi6 hs6 hr8
  go_wp2_with fail
  generalize w5.alloc (.cells #[.int .i64 L.k, .int .i64 L.n, .string L.s, .slice la L.args.length lc] 28 (0, 0)) = W6 at *
  generalize w5.heap.size = p9 at *
  refine (ref_items L _ _ _ (by have := HLS.out.1; omega) HI.out).mono ?_
  rintro e w6 ⟨v1, v2, rfl, hv1, hv2, hb6⟩
  rw [HLI.out] at hv1 hv2
  obtain ⟨va, vc, e1, -⟩ := hv1
  obtain ⟨ua, uc, e2⟩ := hv2.form
  replace e1 : v1 = .slice va s.size vc := by rw [e1, charsT_len]
  replace e2 : v2 = .agg #[.int .i64 3, .int .i64 0, .string ⟨#[91, 93]⟩, .slice ua 0 uc] := e2
  subst e1 e2
  clear hv2
  have hr12 := heap_alloc_new w6 (.cells #[.int .i64 3, .int .i64 0, .string ⟨#[91, 93]⟩, .slice ua 0 uc] 28 (0, 0))
  have ha12 := (Below.refl w6.heap.size w6).alloc (Nat.le_refl _) (.cells #[.int .i64 3, .int .i64 0, .string ⟨#[91, 93]⟩, .slice ua 0 uc] 28 (0, 0))
  have hb12 := hb6.trans (ha12.mono hb6.size)
  have hr5 := row_on HR9.out hb12
  have hr7 := row_on HR7.out hb12
  have hi8 := HI.out.below hb12
  have hbw := HB.out.trans (hb12.mono HB.out.size)
  clear HR9 HR7 HI HB hb6 ha12 hb12 y0 y1 y2 y3
  go_upto_region 13 with fail
  generalize w6.alloc (.cells #[.int .i64 3, .int .i64 0, .string ⟨#[91, 93]⟩, .slice ua 0 uc] 28 (0, 0)) = W7 at *
  generalize w6.heap.size = p12 at *
  have HS := Lib.hid (And.intro hr5 (And.intro hr7 (And.intro hi8 (And.intro hbw (And.intro hr12 HW7.out)))))
  clear hr5 hr7 hi8 hbw hr12 HW7
  go_cut [8] from 57 to 65 (fun v8 wx => v8 = .int .i64 0 ∧ DIs 0 (atomT s) p7 wx ∧ (p12 ≠ p7 → wx.heap[p12]? = some (.cells #[.int .i64 3, .int .i64 0, .string ⟨#[91, 93]⟩, .slice ua 0 uc] 28 (0, 0))) ∧ Below w.heap.size w wx)
  case first =>
    obtain ⟨hr9, hrd, hi8, hbw, hr12, hw7⟩ := HS.out
    clear HS
    refine wp_region_rest (by kernel_rfl) ?_
    have hd := (Below.refl W7.heap.size W7).drew
    replace hr9 := row_on hr9 hd
    replace hrd := row_on hrd hd
    replace hr12 := row_on hr12 hd
    replace hbw := hbw.trans (hd.mono hbw.size)
    replace hi8 := hi8.below hd
    clear hd
    generalize W7.drew = W0 at *
    obtain ⟨y0, y1, y2, y3⟩ := row4 hr9
    have hlt := (Array.getElem?_eq_some_iff.1 hr9).1
    have HR12 := Lib.hid hr12
    have HBW := Lib.hid hbw
    have HI8 := Lib.hid hi8
    clear hr12 hbw hi8 hr9
    refine rest_chainP (fun u => Below W0.heap.size W0 u) 0 4 (.soft 0 (.soft 2 (.one 1 (.one 3 .nil)))) (.soft _ (.soft _ (.one _ (.one _ .nil)))) ⟨rfl, ⟨rfl, ⟨rfl, ⟨rfl, trivial⟩⟩⟩⟩ (by kernel_rfl) (by kernel_rfl) (by kernel_rfl) (by kernel_rfl) (.inr (by kernel_rfl)) (Below.refl _ _) ?_
    have hb0 := Below.refl W0.heap.size W0
    refine chainP_soft (a1 := ?ma22) (by kernel_rfl) (by kernel_rfl) ?mh22 ?mr22
    case mh22 =>
      intro u hu E hE
      go_wp2
      rfl
    refine chainP_soft (a1 := ?ma23) (by kernel_rfl) (by kernel_rfl) ?mh23 ?mr23
    case mh23 =>
      intro u hu E hE
      have c0 := (hu.cell (p := ⟨p9, 0, none⟩) hlt).trans y0
      have c1 := (hu.cell (p := ⟨p9, 1, none⟩) hlt).trans y1
      have c2 := (hu.cell (p := ⟨p9, 2, none⟩) hlt).trans y2
      have c3 := (hu.cell (p := ⟨p9, 3, none⟩) hlt).trans y3
      go_wp2
      rfl
    refine chainP_one ?_
    intro E hE
    go_wp2_with (refine (l16_v _ _).mono ?_; rintro e x1 ⟨rfl, hbn⟩)
    have hx1 := hb0.trans (hbn.mono hb0.size)
    clear hbn
    refine ⟨hx1, ?_⟩
    refine chainP_one ?_
    intro E hE
    go_wp2
    have hgl0 := Nat.lt_of_lt_of_le (Array.getElem?_eq_some_iff.1 hrd).1 hx1.size
    have hrw : IsSl (x1.alloc (.cells #[.int .i64 1, .int .i64 0, .string ⟨#[]⟩, .slice none 0 0, .int .i64 L.k, .int .i64 L.n, .string L.s, .slice la L.args.length lc] 28 (0, 0))) (fun b => b ≠ p7) (.slice (some ⟨x1.heap.size, 0, none⟩) 2 2) [varT 0, L] := row2P (x := varT 0) (y := L) (a := none) (c := 0) (var_is _ _ _) ((HI8.out.below hx1).imp (fun b hb => hb.1.1) fun _ _ _ => rfl) (by have := hgl0; omega)
    have hbn := (Below.refl x1.heap.size x1).alloc (Nat.le_refl _) (.cells #[.int .i64 1, .int .i64 0, .string ⟨#[]⟩, .slice none 0 0, .int .i64 L.k, .int .i64 L.n, .string L.s, .slice la L.args.length lc] 28 (0, 0))
    clear hgl0
    have hx2 := hx1.trans (hbn.mono hx1.size)
    clear hbn
    refine ⟨hx2, ?_⟩
    generalize hGx2 : x1.alloc (.cells #[.int .i64 1, .int .i64 0, .string ⟨#[]⟩, .slice none 0 0, .int .i64 L.k, .int .i64 L.n, .string L.s, .slice la L.args.length lc] 28 (0, 0)) = x2 at *
    clear hGx2
    refine chainP_nil ?_
    refine rest_lineL 4 5 [_] rfl (by kernel_rfl) (by decide) (by decide) (by kernel_rfl) ?_
    go_wp2_with fail
    refine (tx_Do_codes [varT 0, L] (varT 0) L _ _ _ _ hrw rfl (by intro t ht; simp only [List.mem_cons, List.not_mem_nil, or_false] at ht; rcases ht with rfl | rfl; (· exact ⟨by decide, by decide +kernel⟩); (· exact ⟨HLS.out.1, HLS.out.2.1⟩)) (by decide) HLS.out.2.2.1 (by decide) HLS.out.2.2.2 (HTB.out.on (HBW.out.trans (hx2.mono HBW.out.size)))).mono ?_
    rintro e x9 hdp
    rw [HL2.out] at hdp
    obtain ⟨p1, r1, p2, r2, rfl, hic, hsc, hb9⟩ := hdp.is
    have hgl0 := Nat.lt_of_lt_of_le (Array.getElem?_eq_some_iff.1 hrd).1 hx2.size
    have hx9 := hx2.trans (hb9.mono hx2.size)
    have HIC := Lib.hid (hic.ne16 (g := p7) (fun b hb _ => by rcases hb with hb | hb; (· exact hb.1); (· omega)))
    have HSC := Lib.hid (hsc.ne16 (g := p7) (fun b hb _ => by rcases hb with hb | hb; (· exact hb.1); (· omega)))
    have hrd9 := row_on hrd hx9
    have HX9 := Lib.hid hx9
    clear hdp hic hsc hb9 hrw hgl0 hx9
    go_wp2
    refine then_rest ?_
    refine rest_chainP (fun _ => True) 5 9 (.soft 5 (.soft 6 (.soft 7 (.one 8 .nil)))) (.soft _ (.soft _ (.soft _ (.one _ .nil)))) ⟨rfl, ⟨rfl, ⟨rfl, ⟨rfl, trivial⟩⟩⟩⟩ (by kernel_rfl) (by kernel_rfl) (by kernel_rfl) (by kernel_rfl) (.inr (by kernel_rfl)) trivial ?_
    refine chainP_softv (.tuple #[.agg #[.bool true, .slice p1 1 r1, .slice p2 1 r2, .int .i64 0, .int .i64 0, .string ⟨#[]⟩, .slice none 0 0], .int .i64 0]) (by kernel_rfl) (by kernel_rfl) ?_ ?_
    · simp only [Act.put, List.getElem?_toArray, List.getElem?_cons_succ, List.getElem?_cons_zero, Option.bind_some, List.setIfInBounds_toArray, List.set_cons_succ, List.set_cons_zero, Nat.reduceAdd]
      intro u hu E hE
      go_wp2
      exact hE
    simp only [Act.put, List.getElem?_toArray, List.getElem?_cons_succ, List.getElem?_cons_zero, Option.bind_some, List.setIfInBounds_toArray, List.set_cons_succ, List.set_cons_zero, Nat.reduceAdd]
    refine chainP_softv (.agg #[.bool true, .slice p1 1 r1, .slice p2 1 r2, .int .i64 0, .int .i64 0, .string ⟨#[]⟩, .slice none 0 0]) (by kernel_rfl) (by kernel_rfl) ?_ ?_
    · simp only [Act.put, List.getElem?_toArray, List.getElem?_cons_succ, List.getElem?_cons_zero, Option.bind_some, List.setIfInBounds_toArray, List.set_cons_succ, List.set_cons_zero, Nat.reduceAdd]
      intro u hu E hE
      go_wp2
      exact hE
    simp only [Act.put, List.getElem?_toArray, List.getElem?_cons_succ, List.getElem?_cons_zero, Option.bind_some, List.setIfInBounds_toArray, List.set_cons_succ, List.set_cons_zero, Nat.reduceAdd]
    refine chainP_softv (.int .i64 0) (by kernel_rfl) (by kernel_rfl) ?_ ?_
    · simp only [Act.put, List.getElem?_toArray, List.getElem?_cons_succ, List.getElem?_cons_zero, Option.bind_some, List.setIfInBounds_toArray, List.set_cons_succ, List.set_cons_zero, Nat.reduceAdd]
      intro u hu E hE
      go_wp2
      exact hE
    simp only [Act.put, List.getElem?_toArray, List.getElem?_cons_succ, List.getElem?_cons_zero, Option.bind_some, List.setIfInBounds_toArray, List.set_cons_succ, List.set_cons_zero, Nat.reduceAdd]
    refine chainP_one ?_
    intro E hE
    have HDR := Lib.hid (dis_store (f := 0) (t := (atomT s)) hrd9 HIC.out HSC.out)
    go_wp2_with (refine wpList_store_row rfl 35 (.tmp 7) (.tmp 63) rfl p7 #[.bool true, .slice p1 1 r1, .slice p2 1 r2, .int .i64 0, .int .i64 0, .string ⟨#[]⟩, .slice none 0 0] rfl rfl _ _ hrd9 size_did rfl (by simp [Value.oneCell']) ?_)
    refine chainP_nil ?_
    refine rest_lineL 9 10 [_] rfl (by kernel_rfl) (by decide) (by decide) (by kernel_rfl) ?_
    go_wp2
    refine then_rest (rest_end (by decide) ?_)
    go_wp2
    go_meet
    exact ⟨rfl, HDR.out, fun hne => (setRow_other _ _ _ _ hne).trans (row_on HR12.out HX9.out), below_row (HBW.out.trans (HX9.out.mono HBW.out.size)) hw7⟩
  case rest =>
  obtain ⟨rfl, hd6, hr12, hbw⟩ := hcut
  have hne : p12 ≠ p7 := by
    intro h
    have h1 := HS.out.2.2.2.2.1
    rw [h, HS.out.2.1] at h1
    simp at h1
  replace hr12 := hr12 hne
  have HW7 := Lib.hid HS.out.2.2.2.2.2
  clear HS hne
  obtain ⟨q7, k7, q7', k7', r6, hi6, hs6⟩ := hd6
  obtain ⟨b0, b1, b2, b3, b4, b5, b6⟩ := row7 r6
  have HR12 := Lib.hid hr12
  have HBW := Lib.hid hbw
  clear hr12 hbw r6
  go_wp2_with fail
  refine (l16_only 0 (atomT s) q7 q7' k7 k7' (fun b => b ≠ p7) _ hi6 hs6).mono ?_
  rintro e w13 ⟨nb, mc, he, hi7, hb5⟩
  replace he : e = .returned (.tuple #[.agg #[.int .i64 3, .int .i64 0, .string s, .slice nb 0 mc], .bool true]) := he
  subst he
  have hr13 := heap_alloc_new w13 (.cells #[.int .i64 3, .int .i64 0, .string s, .slice nb 0 mc] 28 (0, 0))
  have ha8 := (Below.refl w13.heap.size w13).alloc (Nat.le_refl _) (.cells #[.int .i64 3, .int .i64 0, .string s, .slice nb 0 mc] 28 (0, 0))
  have hb8 := hb5.trans (ha8.mono hb5.size)
  have hr12 := row_on HR12.out hb8
  have hbw := HBW.out.trans (hb8.mono HBW.out.size)
  clear hb5 ha8 hb8 hi7 hi6 hs6 HR12 HBW b0 b1 b2 b3 b4 b5 b6
  go_upto_region 15 with fail
  generalize w13.alloc (.cells #[.int .i64 3, .int .i64 0, .string s, .slice nb 0 mc] 28 (0, 0)) = W9 at *
  generalize w13.heap.size = p13 at *
  refine wp_region_rest (by kernel_rfl) ?_
  have hd := (Below.refl W9.heap.size W9).drew
  replace hr12 := row_on hr12 hd
  replace hr13 := row_on hr13 hd
  replace hbw := hbw.trans (hd.mono hbw.size)
  clear hd
  generalize W9.drew = W0 at *
  obtain ⟨y0, y1, y2, y3⟩ := row4 hr12
  obtain ⟨z0, z1, z2, z3⟩ := row4 hr13
  have hlt := (Array.getElem?_eq_some_iff.1 hr12).1
  have hlt2 := (Array.getElem?_eq_some_iff.1 hr13).1
  have HBW := Lib.hid hbw
  clear hbw hr12 hr13
  refine rest_chainP (fun u => Below W0.heap.size W0 u) 0 21 (.soft 0 (.soft 1 (.soft 2 (.soft 3 (.soft 4 (.soft 5 (.soft 6 (.soft 7 (.soft 8 (.soft 9 (.soft 10 (.soft 11 (.soft 12 (.soft 13 (.soft 14 (.soft 15 (.soft 16 (.one 17 (.one 18 (.soft 19 (.soft 20 .nil))))))))))))))))))))) (.soft _ (.soft _ (.soft _ (.soft _ (.soft _ (.soft _ (.soft _ (.soft _ (.soft _ (.soft _ (.soft _ (.soft _ (.soft _ (.soft _ (.soft _ (.soft _ (.soft _ (.one _ (.one _ (.soft _ (.soft _ .nil))))))))))))))))))))) ⟨rfl, ⟨rfl, ⟨rfl, ⟨rfl, ⟨rfl, ⟨rfl, ⟨rfl, ⟨rfl, ⟨rfl, ⟨rfl, ⟨rfl, ⟨rfl, ⟨rfl, ⟨rfl, ⟨rfl, ⟨rfl, ⟨rfl, ⟨rfl, ⟨rfl, ⟨rfl, ⟨rfl, trivial⟩⟩⟩⟩⟩⟩⟩⟩⟩⟩⟩⟩⟩⟩⟩⟩⟩⟩⟩⟩⟩ (by kernel_rfl) (by kernel_rfl) (by kernel_rfl) (by kernel_rfl) (.inl rfl) (Below.refl _ _) ?_
  have hb0 := Below.refl W0.heap.size W0
  refine chainP_soft (a1 := ?ma24) (by kernel_rfl) (by kernel_rfl) ?mh24 ?mr24
  case mh24 =>
    intro u hu E hE
    go_wp2
    rfl
  refine chainP_soft (a1 := ?ma25) (by kernel_rfl) (by kernel_rfl) ?mh25 ?mr25
  case mh25 =>
    intro u hu E hE
    go_wp2
    rfl
  refine chainP_soft (a1 := ?ma26) (by kernel_rfl) (by kernel_rfl) ?mh26 ?mr26
  case mh26 =>
    intro u hu E hE
    go_wp2
    rfl
  refine chainP_soft (a1 := ?ma27) (by kernel_rfl) (by kernel_rfl) ?mh27 ?mr27
  case mh27 =>
    intro u hu E hE
    go_wp2
    rfl
  refine chainP_soft (a1 := ?ma28) (by kernel_rfl) (by kernel_rfl) ?mh28 ?mr28
  case mh28 =>
    intro u hu E hE
    go_wp2
    rfl
  refine chainP_soft (a1 := ?ma29) (by kernel_rfl) (by kernel_rfl) ?mh29 ?mr29
  case mh29 =>
    intro u hu E hE
    go_wp2
    rfl
  refine chainP_soft (a1 := ?ma30) (by kernel_rfl) (by kernel_rfl) ?mh30 ?mr30
  case mh30 =>
    intro u hu E hE
    go_wp2
    rfl
  refine chainP_soft (a1 := ?ma31) (by kernel_rfl) (by kernel_rfl) ?mh31 ?mr31
  case mh31 =>
    intro u hu E hE
    go_wp2
    rfl
  refine chainP_soft (a1 := ?ma32) (by kernel_rfl) (by kernel_rfl) ?mh32 ?mr32
  case mh32 =>
    intro u hu E hE
    go_wp2
    rfl
  refine chainP_soft (a1 := ?ma33) (by kernel_rfl) (by kernel_rfl) ?mh33 ?mr33
  case mh33 =>
    intro u hu E hE
    go_wp2
    rfl
  refine chainP_soft (a1 := ?ma34) (by kernel_rfl) (by kernel_rfl) ?mh34 ?mr34
  case mh34 =>
    intro u hu E hE
    go_wp2
    rfl
  refine chainP_soft (a1 := ?ma35) (by kernel_rfl) (by kernel_rfl) ?mh35 ?mr35
  case mh35 =>
    intro u hu E hE
    have c0 := (hu.cell (p := ⟨p12, 0, none⟩) hlt).trans y0
    have c1 := (hu.cell (p := ⟨p12, 1, none⟩) hlt).trans y1
    have c2 := (hu.cell (p := ⟨p12, 2, none⟩) hlt).trans y2
    have c3 := (hu.cell (p := ⟨p12, 3, none⟩) hlt).trans y3
    go_wp2
    rfl
  refine chainP_soft (a1 := ?ma36) (by kernel_rfl) (by kernel_rfl) ?mh36 ?mr36
  case mh36 =>
    intro u hu E hE
    go_wp2
    rfl
  refine chainP_soft (a1 := ?ma37) (by kernel_rfl) (by kernel_rfl) ?mh37 ?mr37
  case mh37 =>
    intro u hu E hE
    go_wp2
    rfl
  refine chainP_soft (a1 := ?ma38) (by kernel_rfl) (by kernel_rfl) ?mh38 ?mr38
  case mh38 =>
    intro u hu E hE
    go_wp2
    rfl
  refine chainP_soft (a1 := ?ma39) (by kernel_rfl) (by kernel_rfl) ?mh39 ?mr39
  case mh39 =>
    intro u hu E hE
    have c0 := (hu.cell (p := ⟨p13, 0, none⟩) hlt2).trans z0
    have c1 := (hu.cell (p := ⟨p13, 1, none⟩) hlt2).trans z1
    have c2 := (hu.cell (p := ⟨p13, 2, none⟩) hlt2).trans z2
    have c3 := (hu.cell (p := ⟨p13, 3, none⟩) hlt2).trans z3
    go_wp2
    rfl
  refine chainP_soft (a1 := ?ma40) (by kernel_rfl) (by kernel_rfl) ?mh40 ?mr40
  case mh40 =>
    intro u hu E hE
    go_wp2
    rfl
  refine chainP_one ?_
  intro E hE
  go_wp2_with (refine (l16_a _ _).mono ?_; rintro e x1 ⟨rfl, hbn⟩)
  have hx1 := hb0.trans (hbn.mono hb0.size)
  clear hbn
  refine ⟨hx1, ?_⟩
  refine chainP_one ?_
  intro E hE
  go_wp2_with (refine (ref_same 5 (atomT s) (atomT s) _ _ AnyB AnyB _ (by simp [atomT, Tm.size, sizeL]) (by simp [atomT, Tm.size, sizeL]) (atom_isA _ _ _ _ _) (atom_is _ _ _)).mono ?_; rintro e x2 ⟨rfl, hbn⟩; rw [same_atom s s rfl])
  have hx2 := hx1.trans (hbn.mono hx1.size)
  clear hbn
  refine ⟨hx2, ?_⟩
  refine chainP_soft (a1 := ?ma41) (by kernel_rfl) (by kernel_rfl) ?mh41 ?mr41
  case mh41 =>
    intro u hu E hE
    go_wp2
    rfl
  refine chainP_soft (a1 := ?ma42) (by kernel_rfl) (by kernel_rfl) ?mh42 ?mr42
  case mh42 =>
    intro u hu E hE
    go_wp2
    rfl
  refine chainP_nil (rest_end (by decide) ?_)
  have HB := Lib.hid (HBW.out.trans (hx2.mono HBW.out.size))
  generalize x2 = wz2 at *
  clear HBW
  clear y0 y1 y2 y3 z0 z1 z2 z3 hlt hlt2
  go_wp2_with fail
  clear HW7 HL1 HL2 HLS HLI
  rw [rounds_succ]
  go_wp2_with fail
  refine (l16_a _ _).mono ?_
  rintro e x30 ⟨rfl, hbn⟩
  replace HB := Lib.hid (HB.out.trans (hbn.mono HB.out.size))
  clear hbn
  go_wp2_with fail
  refine (l16_v _ _).mono ?_
  rintro e x31 ⟨rfl, hbn⟩
  replace HB := Lib.hid (HB.out.trans (hbn.mono HB.out.size))
  clear hbn
  go_wp2_with fail
  have ha3 : Below x31.heap.size x31 (x31.alloc (.cells #[.int .i64 3, .int .i64 0, .string s, .slice none 0 0, .int .i64 1, .int .i64 0, .string ⟨#[]⟩, .slice none 0 0] 28 (0, 0))) := (Below.refl _ _).alloc (Nat.le_refl _) _
  have hr3 : IsSl (x31.alloc (.cells #[.int .i64 3, .int .i64 0, .string s, .slice none 0 0, .int .i64 1, .int .i64 0, .string ⟨#[]⟩, .slice none 0 0] 28 (0, 0))) AnyB (.slice (some ⟨x31.heap.size, 0, none⟩) 2 2) [atomT s, varT 0] := row2 (x := atomT s) (y := varT 0) (a := none) (a' := none) (c := 0) (c' := 0) (atom_is _ _ _) (var_is _ _ _)
  generalize (x31.alloc (.cells #[.int .i64 3, .int .i64 0, .string s, .slice none 0 0, .int .i64 1, .int .i64 0, .string ⟨#[]⟩, .slice none 0 0] 28 (0, 0))) = u3 at *
  replace HB := Lib.hid (HB.out.trans (ha3.mono HB.out.size))
  clear ha3
  refine (tx_Do_length [atomT s, varT 0] (atomT s) (varT 0) AnyB u3 _ _ hr3 rfl (by intro t ht; simp only [List.mem_cons, List.not_mem_nil, or_false] at ht; rcases ht with rfl | rfl; (· exact atom_ck16 (by have := HSZ.out; omega)); (· exact ⟨by decide, by decide +kernel⟩)) (by show Num.Fit 0; decide) (by decide) (by have := HSZ.out; show s.size ≤ _; omega) (by decide) (HTB.out.on HB.out)).mono ?_
  rintro e w4 hd
  rw [length_is] at hd
  obtain ⟨q1, k1, q2, k2, rfl, hi, hs, hb4⟩ := hd.is
  replace HB := Lib.hid (HB.out.trans (hb4.mono HB.out.size))
  have ha5 := (Below.refl w4.heap.size w4).alloc (Nat.le_refl _) (.cells #[.bool true, .slice q1 1 k1, .slice q2 1 k2, .int .i64 0, .int .i64 0, .string ⟨#[]⟩, .slice none 0 0] 35 (0, 0))
  have HR7 := Lib.hid (heap_alloc_new w4 (.cells #[.bool true, .slice q1 1 k1, .slice q2 1 k2, .int .i64 0, .int .i64 0, .string ⟨#[]⟩, .slice none 0 0] 35 (0, 0)))
  have hi6 := (hi.below ha5).any16
  have hs6 := (hs.ne16 (g := w4.heap.size) (fun b _ hl => by omega)).below ha5
  have HW7 := Lib.hid HB.out.size
  replace HB := Lib.hid (HB.out.trans (ha5.mono HB.out.size))
  clear hi hs hb4 ha5 hd hr3
  go_wp2_with fail
  generalize w4.alloc (.cells #[.bool true, .slice q1 1 k1, .slice q2 1 k2, .int .i64 0, .int .i64 0, .string ⟨#[]⟩, .slice none 0 0] 35 (0, 0)) = u5 at *
  generalize w4.heap.size = p15 at *
  refine (l16_only 1 (intT s.size) q1 q2 k1 k2 (fun b => b ≠ p15) _ hi6 hs6).mono ?_
  rintro e w5 ⟨na, nc, he, hi7, hb5⟩
  replace he : e = .returned (.tuple #[.agg #[.int .i64 2, .int .i64 (s.size : Int), .string ⟨#[]⟩, .slice na 0 nc], .bool true]) := he
  subst he
  have hr8 := heap_alloc_new w5 (.cells #[.int .i64 2, .int .i64 (s.size : Int), .string ⟨#[]⟩, .slice na 0 nc] 28 (0, 0))
  have ha8 := (Below.refl w5.heap.size w5).alloc (Nat.le_refl _) (.cells #[.int .i64 2, .int .i64 (s.size : Int), .string ⟨#[]⟩, .slice na 0 nc] 28 (0, 0))
  have hb8 := hb5.trans (ha8.mono hb5.size)
  have HR8 := Lib.hid hr8
  replace HR7 := Lib.hid (row_on HR7.out hb8)
  replace HB := Lib.hid (HB.out.trans (hb8.mono HB.out.size))
  have hne : w5.heap.size ≠ p15 := by have := (Array.getElem?_eq_some_iff.1 (row_on HR7.out (Below.refl _ _))).1; have := hb5.size; intro h; have h1 := HR8.out; rw [h, HR7.out] at h1; simp at h1
  clear hb5 ha8 hb8 hi7 hi6 hs6 hr8
  go_wp2_with fail
  generalize w5.alloc (.cells #[.int .i64 2, .int .i64 (s.size : Int), .string ⟨#[]⟩, .slice na 0 nc] 28 (0, 0)) = u6 at *
  generalize w5.heap.size = p17 at *
  refine (l16_a _ _).mono ?_
  rintro e x32 ⟨rfl, hbn⟩
  replace HR7 := Lib.hid (row_on HR7.out hbn)
  replace HR8 := Lib.hid (row_on HR8.out hbn)
  replace HB := Lib.hid (HB.out.trans (hbn.mono HB.out.size))
  clear hbn
  go_wp2_with fail
  refine (l16_a _ _).mono ?_
  rintro e x33 ⟨rfl, hbn⟩
  replace HR7 := Lib.hid (row_on HR7.out hbn)
  replace HR8 := Lib.hid (row_on HR8.out hbn)
  replace HB := Lib.hid (HB.out.trans (hbn.mono HB.out.size))
  clear hbn
  go_wp2_with fail
  refine (l16_v _ _).mono ?_
  rintro e x34 ⟨rfl, hbn⟩
  replace HR7 := Lib.hid (row_on HR7.out hbn)
  replace HR8 := Lib.hid (row_on HR8.out hbn)
  replace HB := Lib.hid (HB.out.trans (hbn.mono HB.out.size))
  clear hbn
  go_wp2_with fail
  have hal := (Below.refl x34.heap.size x34).alloc (Nat.le_refl _) (.cells #[.int .i64 3, .int .i64 0, .string s, .slice none 0 0, .int .i64 3, .int .i64 0, .string t, .slice none 0 0, .int .i64 1, .int .i64 0, .string ⟨#[]⟩, .slice none 0 0] 28 (0, 0))
  have hpl := (Array.getElem?_eq_some_iff.1 HR7.out).1
  have hrw : IsSl (x34.alloc (.cells #[.int .i64 3, .int .i64 0, .string s, .slice none 0 0, .int .i64 3, .int .i64 0, .string t, .slice none 0 0, .int .i64 1, .int .i64 0, .string ⟨#[]⟩, .slice none 0 0] 28 (0, 0))) (fun b => b ≠ p15) (.slice (some ⟨x34.heap.size, 0, none⟩) 3 3) [atomT s, atomT t, varT 0] := row3P (x := atomT s) (y := atomT t) (z := varT 0) (a := none) (c := 0) (a' := none) (c' := 0) (a'' := none) (c'' := 0) (atom_is _ _ _) (atom_is _ _ _) (var_is _ _ _) (by omega)
  refine (tx_Do_concat [atomT s, atomT t, varT 0] (atomT s) (atomT t) (varT 0) _ _ _ _ hrw rfl (by intro t ht; simp only [List.mem_cons, List.not_mem_nil, or_false] at ht; rcases ht with rfl | rfl | rfl; (· exact atom_ck16 (by have := HSZ.out; omega)); (· exact atom_ck16 (by have := HSZ.out; omega)); (· exact ⟨by decide, by decide +kernel⟩)) (by show Num.Fit 0; decide) (by show Num.Fit 0; decide) (by decide) (by have := HSZ.out; show s.size ≤ _; omega) (by have := HSZ.out; show t.size ≤ _; omega) (HTB.out.on (HB.out.trans (hal.mono HB.out.size)))).mono ?_
  rintro e w11 hdp
  rw [concat_is (by have := HSZ.out; omega)] at hdp
  obtain ⟨p1, r1, p2, r2, rfl, hic, hsc, hb11⟩ := hdp.is
  have hb12 := hal.trans (hb11.mono hal.size)
  have hle := hal.size
  have HRY := Lib.hid (row_on HR7.out hb12)
  have HRZ := Lib.hid (row_on HR8.out hb12)
  have HBY := Lib.hid (HB.out.trans (hb12.mono HB.out.size))
  have HPP := Lib.hid (dis_parts HRY.out (hic.ne16 (g := p15) (fun b hb _ => by rcases hb with hb | hb; (· exact hb.1); (· omega))) (hsc.ne16 (g := p15) (fun b hb _ => by rcases hb with hb | hb; (· exact hb.1); (· omega))))
  obtain ⟨b0, b1, b2, b3, b4, b5, b6⟩ := row7 HPP.out.1
  clear hal hpl hrw hdp hic hsc hb11 hb12 hle HR7 HR8 HB
  go_wp2_with (with_reducible show wpList _ _ _ (⟨none, .store _ (.tmp 15) _, _, _, _, _⟩ :: _) _ _
               go_must (refine wpList_store_row rfl 35 (.tmp 15) (.tmp 115) rfl p15 #[.bool true, .slice p1 1 r1, .slice p2 1 r2, .int .i64 0, .int .i64 0, .string ⟨#[]⟩, .slice none 0 0] rfl rfl _ _ HRY.out size_did rfl (by simp [Value.oneCell']) ?_))
  refine (l16_only 2 (atomT (s ++ t)) p1 p2 r1 r2 (fun b => b ≠ p15) _ HPP.out.2.1 HPP.out.2.2).mono ?_
  have HBZ := Lib.hid (below_row (cs := #[.bool true, .slice p1 1 r1, .slice p2 1 r2, .int .i64 0, .int .i64 0, .string ⟨#[]⟩, .slice none 0 0]) HBY.out HW7.out)
  have HRQ := Lib.hid ((setRow_other w11 p15 p17 #[.bool true, .slice p1 1 r1, .slice p2 1 r2, .int .i64 0, .int .i64 0, .string ⟨#[]⟩, .slice none 0 0] hne).trans HRZ.out)
  generalize w11.setRow p15 #[.bool true, .slice p1 1 r1, .slice p2 1 r2, .int .i64 0, .int .i64 0, .string ⟨#[]⟩, .slice none 0 0] = W11 at *
  rintro e w12 ⟨ea, ec, he, hi12, hb5⟩
  replace he : e = .returned (.tuple #[.agg #[.int .i64 3, .int .i64 0, .string (s ++ t), .slice ea 0 ec], .bool true]) := he
  subst he
  have ha8 := (Below.refl w12.heap.size w12).alloc (Nat.le_refl _) (.cells #[.int .i64 3, .int .i64 0, .string (s ++ t), .slice ea 0 ec] 28 (0, 0))
  have hb8 := hb5.trans (ha8.mono hb5.size)
  have hr12 := heap_alloc_new w12 (.cells #[.int .i64 3, .int .i64 0, .string (s ++ t), .slice ea 0 ec] 28 (0, 0))
  have HB := Lib.hid (HBZ.out.trans (hb8.mono HBZ.out.size))
  obtain ⟨y0, y1, y2, y3⟩ := row4 (row_on HRQ.out hb8)
  obtain ⟨z0, z1, z2, z3⟩ := row4 hr12
  clear hb5 ha8 hb8 hi12 HPP HBZ HBY HRY HRZ HRQ b0 b1 b2 b3 b4 b5 b6
  have l1 : (s.size : Int) + (t.size : Int) ≤ 800 := by have := HSZ.out; omega
  go_wp2
  go_ret
  exact ⟨rfl, HB.out⟩
set_option maxRecDepth 100000 in
set_option maxHeartbeats 4000000 in
theorem law_backG (s t : ByteArray) (w : World) (ht : Num.Tab w) (b1 b2 : Bool) (g1 : decide ((400 : Int) < (s.size : Int)) = b1) (g2 : decide ((400 : Int) < (t.size : Int)) = b2) (hb : (b1 || b2) = true) :
    Calls Tryd.prog 4 #[.string s, .string t] w (Says true w) := by
  have HTB := Lib.hid ht
  clear ht
  cases b1 <;> cases b2 <;> first
    | exact absurd hb (by decide)
    | (clear hb
       go_enter Tryd.func4, Tryd.ntmps4
       go_wp2_with fail
       refine (l16_alive _ HTB.out).mono ?_
       rintro e w1 ⟨rfl, hb1⟩
       have HB := Lib.hid hb1
       clear hb1
       go_wp2
       go_ret
       exact ⟨rfl, HB.out⟩)
theorem law_back (s t : ByteArray) (w : World) (ht : Num.Tab w) : Calls Tryd.prog 4 #[.string s, .string t] w (Says true w) := by
  by_cases h : s.size ≤ 400 ∧ t.size ≤ 400
  · exact law_back0 s t w ht h.1 h.2
  · refine law_backG s t w ht _ _ rfl rfl ?_
    simp only [Bool.or_eq_true, decide_eq_true_eq]
    omega
end Go.Proofs.YtkhchmgdaolojaaDoor.Tms
