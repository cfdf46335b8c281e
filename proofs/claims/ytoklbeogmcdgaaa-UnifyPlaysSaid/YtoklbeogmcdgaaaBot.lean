
/-
  The reference's Both (printed by gen_bot.py).
-/
import Derived.Test.YtoklbeogmcdgaaaRux
namespace Go.Proofs.Ytoklbeogmcdgaaa.Tms
open Go Go.RowKit Go.Proofs.Ytoklbeogmcdgaaa.Reg Go.Proofs.Ytoklbeogmcdgaaa.Rws Go.Proofs.Ytoklbeogmcdgaaa.Maps
set_option linter.unusedVariables false
set_option linter.unusedSimpArgs false

/-- the work's object, the store of it -/
structure BoAt (w : World) (q wb : Nat) (sf ov : Bool) (n : Int) (S : Sto) (E : Nat → Prop) (cv bv : Value) (A : Nat → Prop) : Prop where
  row : w.heap[wb]? = some (wkO q n sf ov)
  rr : RefRow w E q S cv bv A
  nw : ¬ E wb
/-- what Both leaves: the store, how much was looked at; the cells' block is the same, the Args' blocks are untouched -/
structure BoSt (w : World) (q wb : Nat) (sf : Bool) (E : Nat → Prop) (cv : Value) (A : Nat → Prop) (r : Option Bool × Sto × Nat) (E' : Nat → Prop) (bv' : Value) (n : Int) (ov : Bool) (w' : World) : Prop where
  bo : BoAt w' q wb sf ov n r.2.1 E' cv bv' A
  kp : Keeps w w' (fun b => E b ∨ b = wb)
  gr : ∀ b, E' b → E b ∨ (w.heap.size ≤ b ∧ b < w'.heap.size)
  ar : ∀ b, A b → cv.ownBlock ≠ some b → w'.heap[b]? = w.heap[b]?
  no : r.1 = none → ov = true
  ok : r.1 ≠ none → ov = false ∧ n = 20000 - (r.2.2 : Int)
def BoDid (w : World) (q wb : Nat) (sf : Bool) (E : Nat → Prop) (cv : Value) (A : Nat → Prop) (r : Option Bool × Sto × Nat) (w' : World) : Prop := ∃ E' bv' n ov, BoSt w q wb sf E cv A r E' bv' n ov w'
section
variable {w w1 w' : World} {q wb : Nat} {sf : Bool} {S : Sto} {E E1 : Nat → Prop} {cv bv bv1 : Value} {A : Nat → Prop} {r r1 : Option Bool × Sto × Nat} {n n1 : Int} {ov ov1 : Bool}
theorem BoAt.wl (h : BoAt w q wb sf ov n S E cv bv A) : wb < w.heap.size := (Array.getElem?_eq_some_iff.1 h.row).1
theorem BoAt.below (h : BoAt w q wb sf ov n S E cv bv A) (hb : Below w.heap.size w w') : BoAt w' q wb sf ov n S E cv bv A := ⟨(hb.block wb h.wl).trans h.row, h.rr.below hb, h.nw⟩
theorem BoAt.wrote {n' : Int} {ov' : Bool} (h : BoAt w q wb sf ov n S E cv bv A) (hr : w'.heap[wb]? = some (wkO q n' sf ov')) (hk : Keeps w w' (fun b => b = wb)) : BoAt w' q wb sf ov' n' S E cv bv A :=
  ⟨hr, h.rr.keep hk.size fun b hlt hd => hk.block b hlt fun e => h.nw (e ▸ hd), h.nw⟩
theorem BoSt.start (h : BoAt w q wb sf ov n S E cv bv A) (h' : BoAt w' q wb sf ov1 n1 S E cv bv A) (hk : Keeps w w' (fun b => b = wb)) {o : Option Bool} {k : Nat} (h1 : o = none → ov1 = true) (h2 : o ≠ none → ov1 = false ∧ n1 = 20000 - (k : Int)) : BoSt w q wb sf E cv A (o, S, k) E bv n1 ov1 w' :=
  ⟨h', ⟨hk.os, hk.tape, hk.output, hk.size, fun b hlt hb => hk.block b hlt fun e => hb (.inr e)⟩, fun b hb => .inl hb, fun b hb hne => hk.block b (h.rr.dl b (h.rr.da b hb)) fun e => h.nw (e ▸ h.rr.da b hb), h1, h2⟩
theorem BoSt.below {E' : Nat → Prop} {bv' : Value} (h : BoSt w q wb sf E cv A r E' bv' n ov w1) (hb : Below w1.heap.size w1 w') : BoSt w q wb sf E cv A r E' bv' n ov w' := by
  have hz := h.kp.size
  refine ⟨h.bo.below hb, ⟨hb.os.trans h.kp.os, hb.tape.trans h.kp.tape, hb.output.trans h.kp.output, Nat.le_trans hz hb.size, fun b hlt hn => (hb.block b (by omega)).trans (h.kp.block b hlt hn)⟩, fun b hb' => (h.gr b hb').imp_right fun e => ⟨e.1, by have := hb.size; omega⟩, fun b ha hne => (hb.block b ?_).trans (h.ar b ha hne), h.no, h.ok⟩
  exact h.bo.rr.dl b (h.bo.rr.da b ha)
/-- one step behind the other -/
theorem BoSt.then {E' E'' : Nat → Prop} {bv' bv'' : Value} {n' : Int} {ov' : Bool} (h0 : ∀ b, A b → b < w.heap.size) (h : BoSt w q wb sf E cv A r E' bv' n ov w1) (h' : BoSt w1 q wb sf E' cv A r1 E'' bv'' n' ov' w') : BoSt w q wb sf E cv A r1 E'' bv'' n' ov' w' := by
  have hz := h.kp.size
  have hz' := h'.kp.size
  refine ⟨h'.bo, ⟨h'.kp.os.trans h.kp.os, h'.kp.tape.trans h.kp.tape, h'.kp.output.trans h.kp.output, Nat.le_trans hz hz', fun b hlt hn => (h'.kp.block b (by omega) fun e => ?_).trans (h.kp.block b hlt hn)⟩, fun b hb => ?_, fun b ha hne => (h'.ar b ha hne).trans (h.ar b ha hne), h'.no, h'.ok⟩
  · rcases e with e | e
    · rcases h.gr b e with e | e
      · exact hn (.inl e)
      · omega
    · exact hn (.inr e)
  · rcases h'.gr b hb with e | e
    · rcases h.gr b e with e | e
      · exact .inl e
      · exact .inr ⟨e.1, by omega⟩
    · exact .inr ⟨by omega, e.2⟩
/-- the store is bound -/
theorem BoSt.bound {S' : Sto} {k : Nat} (h : BoAt w q wb sf false n S E cv bv A) (hd : RowDid w w' E q S' cv A) (hn : n = 20000 - (k : Int)) : ∃ E' bv', BoSt w q wb sf E cv A (some true, S', k) E' bv' n false w' := by
  obtain ⟨E', bv', h1, h2, h3, h4⟩ := hd
  have hwl := h.wl
  refine ⟨E', bv', ⟨(h2.block wb hwl h.nw).trans h.row, h1, fun e => ?_⟩, ⟨h2.os, h2.tape, h2.output, h2.size, fun b hlt hb => h2.block b hlt fun e => hb (.inl e)⟩, h3, h4, fun e => (by cases e), fun _ => ⟨rfl, hn⟩⟩
  rcases h3 wb e with e | e
  · exact h.nw e
  · omega
end
theorem size_rcell : (Try.prog.info? 122).map (·.size) = some 5 := by kernel_rfl
theorem one5 (k n l : Int) (s : ByteArray) (a : Option Addr) (m c : Nat) : (#[Value.int .i64 k, .int .i64 n, .string s, .slice a m c, .int .i64 l].all fun v => v.oneCell') = true := by simp [Value.oneCell']
/-- the two copies -/
structure BoCp (W : World) (U T : Array Value) (r7 r8 : Nat) (wx : World) : Prop where
  ne : r7 ≠ r8
  l7 : W.heap.size ≤ r7
  l8 : W.heap.size ≤ r8
  h7 : wx.heap[r7]? = some (.cells U 122 (0, 0))
  h8 : wx.heap[r8]? = some (.cells T 122 (0, 0))
  bel : Below W.heap.size W wx
/-- the pairs of Args so far -/
def BoRel (w : World) (q wb : Nat) (sf : Bool) (E : Nat → Prop) (cv : Value) (A : Nat → Prop) (k : Nat) (S : Sto) (Z : List (Nat × Nat)) (W : World) (U T : Array Value) (r7 r8 : Nat) (v138 : Value) (wr : World) : Prop :=
  ∃ (i : Nat) (S' : Sto) (k' : Nat) (E' : Nat → Prop) (bv' : Value) (n : Int), i ≤ Z.length ∧ v138 = .int .i64 i ∧ uniK sf k S (Z.take i) = (some true, S', k') ∧ BoSt w q wb sf E cv A (some true, S', k') E' bv' n false wr ∧
    (wr.heap[r7]? = some (.cells U 122 (0, 0)) ∧ ¬ E' r7 ∧ wr.heap[r8]? = some (.cells T 122 (0, 0)) ∧ ¬ E' r8)
set_option maxRecDepth 100000 in
set_option maxHeartbeats 8000000 in
theorem ref_Both {q wb g N cap : Nat} {sf : Bool} {A : Nat → Prop} (hN : N ≤ 16777216) (k : Nat) : ∀ (S : Sto) (E : Nat → Prop) (bv : Value) (a b : Nat) (w : World), Inv S → S.cells.length = N → BoAt w q wb sf false (20000 - (k : Int)) S E (.slice (some ⟨g, 0, none⟩) N cap) bv A → a < N → b < N → k ≤ 20000 →
    Calls Try.prog 91 #[.pointer (some ⟨wb, 0, none⟩), .int .i64 a, .int .i64 b] w fun e w' => e = .returned (.bool (hasB (uniK sf k S [(a, b)]).1)) ∧ BoDid w q wb sf E (.slice (some ⟨g, 0, none⟩) N cap) A (uniK sf k S [(a, b)]) w' := by
  induction k using Nat.strongRecOn with
  | _ k ih =>
    intro S E bv a b w hI hSN hB ha hb hk
    have HQ := Lib.hid (ref_wlook w k hk hB.row)
    have HI := Lib.hid hI
    have HB := Lib.hid hB
    have HAL := Lib.hid (show ∀ b, A b → b < w.heap.size from fun b hb => hB.rr.dl b (hB.rr.da b hb))
    clear hI hB
    cases k with
    | zero =>
      have HZ := Lib.hid (uniK_zero sf S (a, b) [])
      clear ih
      go_enter Try.func91, Try.ntmps91
      go_wp2_with fail
      refine HQ.out.mono ?_
      rintro e1 w1 ⟨rfl, hr1, hk1⟩
      have HR1 := Lib.hid hr1
      have HK1 := Lib.hid hk1
      clear hr1 hk1 HQ
      simp only [decide_true, Bool.not_true]
      go_wp2
      go_ret
      rw [HZ.out]
      exact ⟨rfl, E, bv, _, _, BoSt.start HB.out (HB.out.wrote HR1.out HK1.out) HK1.out (fun _ => rfl) fun h => absurd rfl h⟩
    | succ k =>
    have HONE := Lib.hid (uniK_one sf k S a b)
    have IH := Lib.hid ih
    clear ih
    obtain ⟨fa, cha, cla⟩ := HI.out.stoIn.fol (x := a) (by omega)
    obtain ⟨fb, chb, clb⟩ := HI.out.stoIn.fol (x := b) (by omega)
    obtain ⟨u, hu⟩ : ∃ u, u = fol S a := ⟨_, rfl⟩
    obtain ⟨t, ht⟩ : ∃ t, t = fol S b := ⟨_, rfl⟩
    have hul := cha.end_.1
    have htl := chb.end_.1
    have hufree : ∀ h : fol S a < S.cells.length, (S.cells[fol S a]'h).lk = -1 := fun _ => HI.out.fol_free (x := a) (by omega)
    have htfree : ∀ h : fol S b < S.cells.length, (S.cells[fol S b]'h).lk = -1 := fun _ => HI.out.fol_free (x := b) (by omega)
    have huF := HI.out.fol_fol (x := a) (by omega)
    have htF := HI.out.fol_fol (x := b) (by omega)
    have hoa := HI.out.cell _ _ cla
    have hob := HI.out.cell _ _ clb
    have hone : oneP S sf k a b = if u = t then ((some true, S, k), []) else if (cellF S a).k = 1 then (bindP S sf k u t (cellF S b).k, []) else if (cellF S b).k = 1 then (bindP S sf k t u (cellF S a).k, []) else
        if (cellF S a).k ≠ (cellF S b).k ∨ (cellF S a).n ≠ (cellF S b).n ∨ (cellF S a).s ≠ (cellF S b).s ∨ (cellF S a).args.length ≠ (cellF S b).args.length then ((some false, S, k), []) else ((some true, S, k), (argN S a).zip (argN S b)) := by rw [hu, ht]; rfl
    simp only [← hu] at cha cla hul hufree huF
    simp only [← ht] at chb clb htl htfree htF
    obtain ⟨ca, hca⟩ : ∃ ca, ca = cellF S a := ⟨_, rfl⟩
    obtain ⟨cb, hcb⟩ : ∃ cb, cb = cellF S b := ⟨_, rfl⟩
    have hza : argN S a = ca.args.map Int.toNat := by rw [hca]; rfl
    have hzb : argN S b = cb.args.map Int.toNat := by rw [hcb]; rfl
    rw [← hca, ← hcb, hza, hzb] at hone
    rw [← hca] at hoa cla
    rw [← hcb] at hob clb
    have hce : S.cells[u]'hul = ca := (List.getElem?_eq_some_iff.1 cla).2
    have hcf : S.cells[t]'htl = cb := (List.getElem?_eq_some_iff.1 clb).2
    have HON := Lib.hid hone
    have HCA := Lib.hid cha
    have HCB := Lib.hid chb
    have HOA := Lib.hid hoa
    have HOB := Lib.hid hob
    have HCE := Lib.hid hce
    have HCF := Lib.hid hcf
    have HUF : Hid ((S.cells[u]'hul).lk = -1) := Lib.hid (hufree hul)
    have HTF : Hid ((S.cells[t]'htl).lk = -1) := Lib.hid (htfree htl)
    have HFF := Lib.hid (show fol S u = u ∧ fol S t = t from ⟨huF, htF⟩)
    have hsm := HI.out.small
    clear cha chb cla clb hone hoa hob hce hcf hufree htfree huF htF hza hzb hu ht hca hcb
    go_enter Try.func91, Try.ntmps91
    go_wp2_with fail
    refine HQ.out.mono ?_
    rintro e1 w1 ⟨rfl, hr1, hk1⟩
    have hr1' : w1.heap[wb]? = some (wkO q (20000 - (k : Int)) sf false) := by
      rw [hr1, show (20000 : Int) - ((k + 1 : Nat) : Int) + 1 = 20000 - (k : Int) by omega]
      simp only [Nat.succ_ne_zero, decide_false]
    simp only [Nat.succ_ne_zero, decide_false, Bool.not_false]
    have HB1 := Lib.hid (HB.out.wrote hr1' hk1)
    have HK1 := Lib.hid hk1
    clear hr1 hr1' hk1 HQ
    go_upto_region 3 with fail
    refine wp_region_rest (by kernel_rfl) ?_
    have hdb := (Below.refl w1.heap.size w1).drew
    have HB2 := Lib.hid (HB1.out.below hdb)
    have HST := Lib.hid (show BoSt w q wb sf E (.slice (some ⟨g, 0, none⟩) N cap) A (some true, S, k) E bv (20000 - (k : Int)) false w1.drew from (BoSt.start HB.out HB1.out HK1.out (fun h => by cases h) fun _ => ⟨rfl, rfl⟩).below hdb)
    clear hdb HB1 HK1
    generalize w1.drew = W0 at *
    obtain ⟨x0, x1, x2, x3⟩ := row4r HB2.out.row
    have HREF := Lib.hid (show RefAt W0 E q S from ⟨_, _, _, HB2.out.rr⟩)
    refine rest_chainP (SameW W0) 0 14 (.soft 0 (.soft 1 (.soft 2 (.soft 3 (.soft 4 (.soft 6 (.soft 7 (.soft 8 (.soft 9 (.soft 10 (.one 5 (.one 11 (.soft 12 (.soft 13 .nil)))))))))))))) (.soft _ (.soft _ (.soft _ (.soft _ (.soft _ (.soft _ (.soft _ (.soft _ (.soft _ (.soft _ (.one _ (.one _ (.soft _ (.soft _ .nil)))))))))))))) ⟨rfl, ⟨rfl, ⟨rfl, ⟨rfl, ⟨rfl, ⟨rfl, ⟨rfl, ⟨rfl, ⟨rfl, ⟨rfl, ⟨rfl, ⟨rfl, ⟨rfl, ⟨rfl, trivial⟩⟩⟩⟩⟩⟩⟩⟩⟩⟩⟩⟩⟩⟩ (by kernel_rfl) (by kernel_rfl) (by kernel_rfl) (by kernel_rfl) (.inl rfl) (SameW.me W0) ?_
    refine chainP_soft (a1 := ?ma1) (by kernel_rfl) (by kernel_rfl) ?mh1 ?mr1
    case mh1 =>
      intro u hu E hE
      have hu' := hu.eq
      subst hu'
      go_wp2
      rfl
    refine chainP_nck _ _ rfl rfl rfl ?_
    simp only [Act.put, List.getElem?_toArray, List.getElem?_cons_succ, List.getElem?_cons_zero, Option.bind_some, List.setIfInBounds_toArray, List.set_cons_succ, List.set_cons_zero, Nat.reduceAdd]
    refine chainP_soft (a1 := ?ma2) (by kernel_rfl) (by kernel_rfl) ?mh2 ?mr2
    case mh2 =>
      intro u hu E hE
      have hu' := hu.eq
      subst hu'
      go_wp2
      rfl
    refine chainP_soft (a1 := ?ma3) (by kernel_rfl) (by kernel_rfl) ?mh3 ?mr3
    case mh3 =>
      intro u hu E hE
      have hu' := hu.eq
      subst hu'
      go_wp2
      rfl
    refine chainP_soft (a1 := ?ma4) (by kernel_rfl) (by kernel_rfl) ?mh4 ?mr4
    case mh4 =>
      intro u hu E hE
      have hu' := hu.eq
      subst hu'
      go_wp2
      rfl
    refine chainP_soft (a1 := ?ma5) (by kernel_rfl) (by kernel_rfl) ?mh5 ?mr5
    case mh5 =>
      intro u hu E hE
      have hu' := hu.eq
      subst hu'
      go_wp2
      rfl
    refine chainP_nck _ _ rfl rfl rfl ?_
    simp only [Act.put, List.getElem?_toArray, List.getElem?_cons_succ, List.getElem?_cons_zero, Option.bind_some, List.setIfInBounds_toArray, List.set_cons_succ, List.set_cons_zero, Nat.reduceAdd]
    refine chainP_soft (a1 := ?ma6) (by kernel_rfl) (by kernel_rfl) ?mh6 ?mr6
    case mh6 =>
      intro u hu E hE
      have hu' := hu.eq
      subst hu'
      go_wp2
      rfl
    refine chainP_soft (a1 := ?ma7) (by kernel_rfl) (by kernel_rfl) ?mh7 ?mr7
    case mh7 =>
      intro u hu E hE
      have hu' := hu.eq
      subst hu'
      go_wp2
      rfl
    refine chainP_soft (a1 := ?ma8) (by kernel_rfl) (by kernel_rfl) ?mh8 ?mr8
    case mh8 =>
      intro u hu E hE
      have hu' := hu.eq
      subst hu'
      go_wp2
      rfl
    refine chainP_one ?_
    intro E hE
    go_wp2_with fail
    refine (ref_Follow W0 HREF.out HI.out.kindOk fa a u HCA.out).mono ?_
    rintro e6 w6 ⟨rfl, rfl⟩
    go_wp2
    refine ⟨SameW.me _, ?_⟩
    refine chainP_one ?_
    intro E hE
    go_wp2_with fail
    refine (ref_Follow W0 HREF.out HI.out.kindOk fb b t HCB.out).mono ?_
    rintro e6 w6 ⟨rfl, rfl⟩
    go_wp2
    refine ⟨SameW.me _, ?_⟩
    refine chainP_soft (a1 := ?ma9) (by kernel_rfl) (by kernel_rfl) ?mh9 ?mr9
    case mh9 =>
      intro u hu E hE
      have hu' := hu.eq
      subst hu'
      go_wp2
      rfl
    refine chainP_soft (a1 := ?ma10) (by kernel_rfl) (by kernel_rfl) ?mh10 ?mr10
    case mh10 =>
      intro u hu E hE
      have hu' := hu.eq
      subst hu'
      go_wp2
      rfl
    refine chainP_nil (rest_end (by decide) ?_)
    clear HCA HCB x0 x1 x2 x3
    by_cases hut : u = t
    · have b1 : ((u : Int) == (t : Int)) = true := by simp; omega
      have hr := HONE.out
      rw [HON.out, if_pos hut] at hr
      have hr' : uniK sf (k + 1) S [(a, b)] = (some true, S, k) := by rw [hr]; exact uniK_nil sf k S
      have HRR := Lib.hid hr'
      clear hr hr' hut HONE HON
      go_wp2
      go_ret
      rw [HRR.out]
      exact ⟨rfl, E, bv, _, _, HST.out⟩
    have b1 : ((u : Int) == (t : Int)) = false := by simp; omega
    have hon := HON.out
    rw [if_neg hut] at hon
    have HONN := Lib.hid hon
    clear hon HON
    -- which one is bound
    obtain ⟨sw, xu, xt, cu, ct, hsw, hxu, hxt, hcu, hct, hxuf, hxtf, hxne, hff, hway⟩ : ∃ (sw : Bool) (xu xt : Nat) (cu ct : SCell), sw = ((ca.k != 1) && (cb.k == 1)) ∧ xu = (if sw = true then t else u) ∧ xt = (if sw = true then u else t) ∧ S.cells[xu]? = some cu ∧ S.cells[xt]? = some ct ∧ cu.lk = -1 ∧ ct.lk = -1 ∧ xu ≠ xt ∧ (fol S xu = xu ∧ fol S xt = xt) ∧
        ((cu.k = 1 ∧ oneP S sf k a b = (bindP S sf k xu xt ct.k, [])) ∨ (cu.k ≠ 1 ∧ ct.k ≠ 1 ∧ oneP S sf k a b = if cu.k ≠ ct.k ∨ cu.n ≠ ct.n ∨ cu.s ≠ ct.s ∨ cu.args.length ≠ ct.args.length then ((some false, S, k), []) else ((some true, S, k), (cu.args.map Int.toNat).zip (ct.args.map Int.toNat)))) := by
      have ga : S.cells[u]? = some ca := by rw [List.getElem?_eq_getElem hul, HCE.out]
      have gb : S.cells[t]? = some cb := by rw [List.getElem?_eq_getElem htl, HCF.out]
      have la : ca.lk = -1 := by have := HUF.out; rw [HCE.out] at this; exact this
      have lb : cb.lk = -1 := by have := HTF.out; rw [HCF.out] at this; exact this
      by_cases ka : ca.k = 1
      · refine ⟨false, u, t, ca, cb, by simp [ka], rfl, rfl, ga, gb, la, lb, hut, HFF.out, .inl ⟨ka, ?_⟩⟩
        rw [HONN.out, if_pos ka]
      · by_cases kb : cb.k = 1
        · refine ⟨true, t, u, cb, ca, by simp [ka, kb], rfl, rfl, gb, ga, lb, la, fun e => hut e.symm, ⟨HFF.out.2, HFF.out.1⟩, .inl ⟨kb, ?_⟩⟩
          rw [HONN.out, if_neg ka, if_pos kb]
        · refine ⟨false, u, t, ca, cb, by simp [kb], rfl, rfl, ga, gb, la, lb, hut, HFF.out, .inr ⟨ka, kb, ?_⟩⟩
          rw [HONN.out, if_neg ka, if_neg kb]
    have hu0 : (0 : Int) ≤ (u : Int) := by omega
    have hu1 : (u : Int) < (N : Int) := by omega
    have ht0 : (0 : Int) ≤ (t : Int) := by omega
    have ht1 : (t : Int) < (N : Int) := by omega
    obtain ⟨x0, x1, x2, x3⟩ := row4r HB2.out.row
    obtain ⟨z0, z1, z2⟩ := row3 HB2.out.rr.row
    obtain ⟨g1, cap1, av1, e1, q1, q2, c0, -, -, -, -, -⟩ := HB2.out.rr.cell u hul
    simp only [Value.slice.injEq, Option.some.injEq, Addr.mk.injEq, and_true] at e1
    obtain ⟨rfl, -, rfl⟩ := e1
    obtain ⟨g2, cap2, av2, e2, -, -, d0, -, -, -, -, -⟩ := HB2.out.rr.cell t htl
    simp only [Value.slice.injEq, Option.some.injEq, Addr.mk.injEq, and_true] at e2
    obtain ⟨rfl, -, rfl⟩ := e2
    rw [HCE.out] at c0
    rw [HCF.out] at d0
    rw [hSN] at q1
    have HWAY := Lib.hid hway
    have HXU := Lib.hid hcu
    have HXT := Lib.hid hct
    have HXF := Lib.hid (show (cu.lk = -1 ∧ ct.lk = -1) ∧ fol S xu = xu ∧ fol S xt = xt from ⟨⟨hxuf, hxtf⟩, hff⟩)
    have HSW := Lib.hid hsw
    have HX1 := Lib.hid hxu
    have HX2 := Lib.hid hxt
    have HXN := Lib.hid hxne
    clear hway hcu hct hxuf hxtf hff hsw hxu hxt hxne HONN hut
    go_upto_region 6 with fail
    go_cut [54] from 29 to 53 (fun v wx => v = .bool sw ∧ W0 = wx)
    case first =>
      by_cases ka : ca.k = 1
      · have b2 : (ca.k != 1) = false := by simp [ka]
        have hs : sw = false := by rw [HSW.out, b2]; rfl
        clear ka
        go_wp2
        go_meet
        exact ⟨by rw [hs], rfl⟩
      · have b2 : (ca.k != 1) = true := by simp [ka]
        have hs : sw = (cb.k == 1) := by rw [HSW.out, b2]; rfl
        clear ka
        go_wp2
        go_meet
        exact ⟨by rw [hs], rfl⟩
    case rest =>
    obtain ⟨rfl, rfl⟩ := hcut
    clear c0 d0
    go_upto_if 54 with fail
    go_cut [1, 2] from 55 to 56 (fun v1 v2 wx => v1 = .int .i64 xu ∧ v2 = .int .i64 xt ∧ W0 = wx)
    case first =>
      cases sw with
      | true =>
        have e1 : xu = t := HX1.out
        have e2 : xt = u := HX2.out
        have E1 := Lib.hid e1
        have E2 := Lib.hid e2
        clear e1 e2
        go_wp2
        go_meet
        exact ⟨by rw [E1.out], by rw [E2.out], rfl⟩
      | false =>
        have e1 : xu = u := HX1.out
        have e2 : xt = t := HX2.out
        have E1 := Lib.hid e1
        have E2 := Lib.hid e2
        clear e1 e2
        go_wp2
        go_meet
        exact ⟨by rw [E1.out], by rw [E2.out], rfl⟩
    case rest =>
    obtain ⟨rfl, rfl, rfl⟩ := hcut
    clear hu0 hu1 ht0 ht1 HX1 HX2 HSW HCE HCF HUF HTF HFF
    have hxl : xu < S.cells.length := (List.getElem?_eq_some_iff.1 HXU.out).1
    have hyl : xt < S.cells.length := (List.getElem?_eq_some_iff.1 HXT.out).1
    obtain ⟨g1, cap1, av1, e1, -, -, c0, c1, c2, c3, c4, hav⟩ := HB2.out.rr.cell xu hxl
    simp only [Value.slice.injEq, Option.some.injEq, Addr.mk.injEq, and_true] at e1
    obtain ⟨rfl, -, rfl⟩ := e1
    obtain ⟨g2, cap2, av2, e2, -, -, d0, d1, d2, d3, d4, hbv⟩ := HB2.out.rr.cell xt hyl
    simp only [Value.slice.injEq, Option.some.injEq, Addr.mk.injEq, and_true] at e2
    obtain ⟨rfl, -, rfl⟩ := e2
    have hxe := (List.getElem?_eq_some_iff.1 HXU.out).2
    have hye := (List.getElem?_eq_some_iff.1 HXT.out).2
    rw [hxe] at c0 c1 c2 c4 hav
    rw [hye] at d0 d1 d2 d4 hbv
    obtain ⟨qu, ku, rfl⟩ := hav.form
    obtain ⟨qt, kt, rfl⟩ := hbv.form
    have hxok := HI.out.cell _ _ HXU.out
    have hyok := HI.out.cell _ _ HXT.out
    have hxal := hxok.len
    have hyal := hyok.len
    have HAU := Lib.hid hav
    have HAT := Lib.hid hbv
    have HXA := Lib.hid hxok.args
    have HYA := Lib.hid hyok.args
    have hu0 : (0 : Int) ≤ (xu : Int) := by omega
    have hu1 : (xu : Int) < (N : Int) := by omega
    have ht0 : (0 : Int) ≤ (xt : Int) := by omega
    have ht1 : (xt : Int) < (N : Int) := by omega
    have hgl : g < W0.heap.size := HB2.out.rr.dl g (HB2.out.rr.dc g rfl)
    have HCU := Lib.hid (show ∀ v, Below W0.heap.size W0 v → v.cell? ⟨g, xu * 5, none⟩ = some (.int .i64 cu.k) ∧ v.cell? ⟨g, xu * 5 + 1, none⟩ = some (.int .i64 cu.n) ∧ v.cell? ⟨g, xu * 5 + 2, none⟩ = some (.string cu.s) ∧ v.cell? ⟨g, xu * 5 + 3, none⟩ = some (.slice qu cu.args.length ku) ∧ v.cell? ⟨g, xu * 5 + 4, none⟩ = some (.int .i64 cu.lk) from
      fun v hv => ⟨(hv.cell hgl).trans c0, (hv.cell hgl).trans c1, (hv.cell hgl).trans c2, (hv.cell hgl).trans c3, (hv.cell hgl).trans c4⟩)
    have HCT := Lib.hid (show ∀ v, Below W0.heap.size W0 v → v.cell? ⟨g, xt * 5, none⟩ = some (.int .i64 ct.k) ∧ v.cell? ⟨g, xt * 5 + 1, none⟩ = some (.int .i64 ct.n) ∧ v.cell? ⟨g, xt * 5 + 2, none⟩ = some (.string ct.s) ∧ v.cell? ⟨g, xt * 5 + 3, none⟩ = some (.slice qt ct.args.length kt) ∧ v.cell? ⟨g, xt * 5 + 4, none⟩ = some (.int .i64 ct.lk) from
      fun v hv => ⟨(hv.cell hgl).trans d0, (hv.cell hgl).trans d1, (hv.cell hgl).trans d2, (hv.cell hgl).trans d3, (hv.cell hgl).trans d4⟩)
    clear hav hbv hxe hye hxok hyok c0 c1 c2 c3 c4 d0 d1 d2 d3 d4 x0 x1 x2 x3 z0 z1 z2
    go_upto_region 8 with fail
    go_cut [7, 8] from 57 to 76 (fun v7 v8 wx => ∃ r7 r8, v7 = .pointer (some ⟨r7, 0, none⟩) ∧ v8 = .pointer (some ⟨r8, 0, none⟩) ∧ BoCp W0 #[.int .i64 cu.k, .int .i64 cu.n, .string cu.s, .slice qu cu.args.length ku, .int .i64 cu.lk] #[.int .i64 ct.k, .int .i64 ct.n, .string ct.s, .slice qt ct.args.length kt, .int .i64 ct.lk] r7 r8 wx)
    case first =>
      refine wp_region_rest (by kernel_rfl) ?_
      have hdb := (Below.refl W0.heap.size W0).drew
      have HDB := Lib.hid hdb
      have HWR := Lib.hid (fun v (hv : Below W0.drew.heap.size W0.drew v) => (row4r ((hv.block wb HB2.out.wl).trans HB2.out.row)))
      have HQR := Lib.hid (fun v (hv : Below W0.drew.heap.size W0.drew v) => (row3 ((hv.block q (HB2.out.rr.dl q HB2.out.rr.dp)).trans HB2.out.rr.row)))
      have HCU2 := Lib.hid (fun v (hv : Below W0.drew.heap.size W0.drew v) => HCU.out v (hdb.trans hv))
      have HCT2 := Lib.hid (fun v (hv : Below W0.drew.heap.size W0.drew v) => HCT.out v (hdb.trans hv))
      clear hdb
      generalize hW1 : W0.drew = W1 at *
      clear hW1
      refine rest_chainP (fun u => Below W1.heap.size W1 u) 0 24 (.soft 0 (.soft 1 (.soft 2 (.soft 3 (.soft 4 (.soft 5 (.soft 6 (.soft 7 (.soft 8 (.soft 9 (.soft 10 (.soft 11 (.soft 12 (.soft 13 (.soft 14 (.soft 15 (.soft 16 (.soft 17 (.soft 18 (.soft 19 (.two 20 21 (.one 21 (.one 22 (.one 23 .nil))) (.one 20 (.one 22 (.one 23 .nil)))))))))))))))))))))))) (.soft _ (.soft _ (.soft _ (.soft _ (.soft _ (.soft _ (.soft _ (.soft _ (.soft _ (.soft _ (.soft _ (.soft _ (.soft _ (.soft _ (.soft _ (.soft _ (.soft _ (.soft _ (.soft _ (.soft _ (.two _ _ (.one _ (.one _ (.one _ .nil))) (.one _ (.one _ (.one _ .nil)))))))))))))))))))))))) ⟨rfl, ⟨rfl, ⟨rfl, ⟨rfl, ⟨rfl, ⟨rfl, ⟨rfl, ⟨rfl, ⟨rfl, ⟨rfl, ⟨rfl, ⟨rfl, ⟨rfl, ⟨rfl, ⟨rfl, ⟨rfl, ⟨rfl, ⟨rfl, ⟨rfl, ⟨rfl, ⟨rfl, rfl, ⟨rfl, ⟨rfl, ⟨rfl, trivial⟩⟩⟩, ⟨rfl, ⟨rfl, ⟨rfl, trivial⟩⟩⟩⟩⟩⟩⟩⟩⟩⟩⟩⟩⟩⟩⟩⟩⟩⟩⟩⟩⟩⟩⟩⟩ (by kernel_rfl) (by kernel_rfl) (by kernel_rfl) (by kernel_rfl) (.inl rfl) (Below.refl _ _) ?_
      refine chainP_soft (a1 := ?ma11) (by kernel_rfl) (by kernel_rfl) ?mh11 ?mr11
      case mh11 =>
        intro u hu E hE
        go_wp2
        rfl
      refine chainP_nck _ _ rfl rfl rfl ?_
      simp only [Act.put, List.getElem?_toArray, List.getElem?_cons_succ, List.getElem?_cons_zero, Option.bind_some, List.setIfInBounds_toArray, List.set_cons_succ, List.set_cons_zero, Nat.reduceAdd]
      refine chainP_soft (a1 := ?ma12) (by kernel_rfl) (by kernel_rfl) ?mh12 ?mr12
      case mh12 =>
        intro u hu E hE
        go_wp2
        rfl
      refine chainP_soft (a1 := ?ma13) (by kernel_rfl) (by kernel_rfl) ?mh13 ?mr13
      case mh13 =>
        intro u hu E hE
        obtain ⟨x0, x1, x2, x3⟩ := HWR.out u hu
        go_wp2
        rfl
      refine chainP_nck _ _ rfl rfl rfl ?_
      simp only [Act.put, List.getElem?_toArray, List.getElem?_cons_succ, List.getElem?_cons_zero, Option.bind_some, List.setIfInBounds_toArray, List.set_cons_succ, List.set_cons_zero, Nat.reduceAdd]
      refine chainP_soft (a1 := ?ma14) (by kernel_rfl) (by kernel_rfl) ?mh14 ?mr14
      case mh14 =>
        intro u hu E hE
        go_wp2
        rfl
      refine chainP_soft (a1 := ?ma15) (by kernel_rfl) (by kernel_rfl) ?mh15 ?mr15
      case mh15 =>
        intro u hu E hE
        obtain ⟨z0, z1, z2⟩ := HQR.out u hu
        go_wp2
        rfl
      refine chainP_soft (a1 := ?ma16) (by kernel_rfl) (by kernel_rfl) ?mh16 ?mr16
      case mh16 =>
        intro u hu E hE
        go_wp2
        rfl
      refine chainP_soft (a1 := ?ma17) (by kernel_rfl) (by kernel_rfl) ?mh17 ?mr17
      case mh17 =>
        intro u hu E hE
        go_wp2
        rfl
      refine chainP_soft (a1 := ?ma18) (by kernel_rfl) (by kernel_rfl) ?mh18 ?mr18
      case mh18 =>
        intro u hu E hE
        obtain ⟨c0, c1, c2, c3, c4⟩ := HCU2.out u hu
        go_wp2
        rfl
      refine chainP_soft (a1 := ?ma19) (by kernel_rfl) (by kernel_rfl) ?mh19 ?mr19
      case mh19 =>
        intro u hu E hE
        go_wp2
        rfl
      refine chainP_nck _ _ rfl rfl rfl ?_
      simp only [Act.put, List.getElem?_toArray, List.getElem?_cons_succ, List.getElem?_cons_zero, Option.bind_some, List.setIfInBounds_toArray, List.set_cons_succ, List.set_cons_zero, Nat.reduceAdd]
      refine chainP_soft (a1 := ?ma20) (by kernel_rfl) (by kernel_rfl) ?mh20 ?mr20
      case mh20 =>
        intro u hu E hE
        go_wp2
        rfl
      refine chainP_soft (a1 := ?ma21) (by kernel_rfl) (by kernel_rfl) ?mh21 ?mr21
      case mh21 =>
        intro u hu E hE
        obtain ⟨x0, x1, x2, x3⟩ := HWR.out u hu
        go_wp2
        rfl
      refine chainP_nck _ _ rfl rfl rfl ?_
      simp only [Act.put, List.getElem?_toArray, List.getElem?_cons_succ, List.getElem?_cons_zero, Option.bind_some, List.setIfInBounds_toArray, List.set_cons_succ, List.set_cons_zero, Nat.reduceAdd]
      refine chainP_soft (a1 := ?ma22) (by kernel_rfl) (by kernel_rfl) ?mh22 ?mr22
      case mh22 =>
        intro u hu E hE
        go_wp2
        rfl
      refine chainP_soft (a1 := ?ma23) (by kernel_rfl) (by kernel_rfl) ?mh23 ?mr23
      case mh23 =>
        intro u hu E hE
        obtain ⟨z0, z1, z2⟩ := HQR.out u hu
        go_wp2
        rfl
      refine chainP_soft (a1 := ?ma24) (by kernel_rfl) (by kernel_rfl) ?mh24 ?mr24
      case mh24 =>
        intro u hu E hE
        go_wp2
        rfl
      refine chainP_soft (a1 := ?ma25) (by kernel_rfl) (by kernel_rfl) ?mh25 ?mr25
      case mh25 =>
        intro u hu E hE
        go_wp2
        rfl
      refine chainP_soft (a1 := ?ma26) (by kernel_rfl) (by kernel_rfl) ?mh26 ?mr26
      case mh26 =>
        intro u hu E hE
        obtain ⟨c0, c1, c2, c3, c4⟩ := HCT2.out u hu
        go_wp2
        rfl
      refine chainP_two ?_ ?_
      · intro E0 hE
        go_wp2
        have hb1 := below_new W1 (.cells #[.int .i64 0, .int .i64 0, .string ⟨#[]⟩, .slice none 0 0, .int .i64 0] 122 (0, 0))
        have hg1 := heap_alloc_new W1 (.cells #[.int .i64 0, .int .i64 0, .string ⟨#[]⟩, .slice none 0 0, .int .i64 0] 122 (0, 0))
        have hz1 : (W1.alloc (.cells #[.int .i64 0, .int .i64 0, .string ⟨#[]⟩, .slice none 0 0, .int .i64 0] 122 (0, 0))).heap.size = W1.heap.size + 1 := by simp
        refine ⟨hb1, ?_⟩
        refine chainP_one ?_
        intro E0 hE
        go_wp2
        have hb2 := below_new (W1.alloc (.cells #[.int .i64 0, .int .i64 0, .string ⟨#[]⟩, .slice none 0 0, .int .i64 0] 122 (0, 0))) (.cells #[.int .i64 0, .int .i64 0, .string ⟨#[]⟩, .slice none 0 0, .int .i64 0] 122 (0, 0))
        have hg2 := heap_alloc_new (W1.alloc (.cells #[.int .i64 0, .int .i64 0, .string ⟨#[]⟩, .slice none 0 0, .int .i64 0] 122 (0, 0))) (.cells #[.int .i64 0, .int .i64 0, .string ⟨#[]⟩, .slice none 0 0, .int .i64 0] 122 (0, 0))
        rw [hz1] at hg2
        have hg1' := (hb2.block W1.heap.size (by omega)).trans hg1
        have hb2' := hb1.trans (hb2.mono hb1.size)
        have hz2 : ((W1.alloc (.cells #[.int .i64 0, .int .i64 0, .string ⟨#[]⟩, .slice none 0 0, .int .i64 0] 122 (0, 0))).alloc (.cells #[.int .i64 0, .int .i64 0, .string ⟨#[]⟩, .slice none 0 0, .int .i64 0] 122 (0, 0))).heap.size = W1.heap.size + 2 := by simp
        refine ⟨hb2', ?_⟩
        generalize (W1.alloc (.cells #[.int .i64 0, .int .i64 0, .string ⟨#[]⟩, .slice none 0 0, .int .i64 0] 122 (0, 0))).alloc (.cells #[.int .i64 0, .int .i64 0, .string ⟨#[]⟩, .slice none 0 0, .int .i64 0] 122 (0, 0)) = W2 at *
        have HG1 := Lib.hid hg1'
        have HG2 := Lib.hid hg2
        have HB3 := Lib.hid hb2'
        clear hb1 hg1 hz1 hb2 hg2 hg1' hb2'
        refine chainP_one ?_
        intro E0 hE
        refine wpList_store_row rfl 122 (.tmp 7) (.tmp 66) rfl (W1.heap.size) #[.int .i64 cu.k, .int .i64 cu.n, .string cu.s, .slice qu cu.args.length ku, .int .i64 cu.lk] rfl rfl _ _ HG1.out size_rcell rfl (one5 _ _ _ _ _ _ _) ?_
        have hs7 := setRow_heap _ (W1.heap.size) _ #[.int .i64 cu.k, .int .i64 cu.n, .string cu.s, .slice qu cu.args.length ku, .int .i64 cu.lk] _ _ HG1.out
        have hs8 := (setRow_other W2 (W1.heap.size) (W1.heap.size + 1) #[.int .i64 cu.k, .int .i64 cu.n, .string cu.s, .slice qu cu.args.length ku, .int .i64 cu.lk] (by omega)).trans HG2.out
        have hb4 := below_setRow HB3.out (show W1.heap.size ≤ W1.heap.size by omega) #[.int .i64 cu.k, .int .i64 cu.n, .string cu.s, .slice qu cu.args.length ku, .int .i64 cu.lk]
        refine hE _ _ ⟨hb4, ?_⟩
        simp only [Act.put, List.getElem?_toArray, List.getElem?_cons_succ, List.getElem?_cons_zero, Option.bind_some, List.setIfInBounds_toArray, List.set_cons_succ, List.set_cons_zero, Nat.reduceAdd]
        refine chainP_one ?_
        intro E0 hE
        refine wpList_store_row rfl 122 (.tmp 8) (.tmp 76) rfl (W1.heap.size + 1) #[.int .i64 ct.k, .int .i64 ct.n, .string ct.s, .slice qt ct.args.length kt, .int .i64 ct.lk] rfl rfl _ _ hs8 size_rcell rfl (one5 _ _ _ _ _ _ _) ?_
        have ht8 := setRow_heap _ (W1.heap.size + 1) _ #[.int .i64 ct.k, .int .i64 ct.n, .string ct.s, .slice qt ct.args.length kt, .int .i64 ct.lk] _ _ hs8
        have ht7 := (setRow_other (W2.setRow (W1.heap.size) #[.int .i64 cu.k, .int .i64 cu.n, .string cu.s, .slice qu cu.args.length ku, .int .i64 cu.lk]) (W1.heap.size + 1) (W1.heap.size) #[.int .i64 ct.k, .int .i64 ct.n, .string ct.s, .slice qt ct.args.length kt, .int .i64 ct.lk] (by omega)).trans hs7
        have hb5 := below_setRow hb4 (show W1.heap.size ≤ W1.heap.size + 1 by omega) #[.int .i64 ct.k, .int .i64 ct.n, .string ct.s, .slice qt ct.args.length kt, .int .i64 ct.lk]
        refine hE _ _ ⟨hb5, ?_⟩
        simp only [Act.put, List.getElem?_toArray, List.getElem?_cons_succ, List.getElem?_cons_zero, Option.bind_some, List.setIfInBounds_toArray, List.set_cons_succ, List.set_cons_zero, Nat.reduceAdd]
        refine chainP_nil (rest_end (by decide) ?_)
        have hzd := HDB.out.size
        have hcp : BoCp W0 #[.int .i64 cu.k, .int .i64 cu.n, .string cu.s, .slice qu cu.args.length ku, .int .i64 cu.lk] #[.int .i64 ct.k, .int .i64 ct.n, .string ct.s, .slice qt ct.args.length kt, .int .i64 ct.lk] (W1.heap.size) (W1.heap.size + 1) _ := ⟨by omega, by omega, by omega, ht7, ht8, HDB.out.trans (hb5.mono HDB.out.size)⟩
        go_wp2
        go_meet
        exact ⟨_, _, rfl, rfl, hcp⟩
      · intro E0 hE
        go_wp2
        have hb1 := below_new W1 (.cells #[.int .i64 0, .int .i64 0, .string ⟨#[]⟩, .slice none 0 0, .int .i64 0] 122 (0, 0))
        have hg1 := heap_alloc_new W1 (.cells #[.int .i64 0, .int .i64 0, .string ⟨#[]⟩, .slice none 0 0, .int .i64 0] 122 (0, 0))
        have hz1 : (W1.alloc (.cells #[.int .i64 0, .int .i64 0, .string ⟨#[]⟩, .slice none 0 0, .int .i64 0] 122 (0, 0))).heap.size = W1.heap.size + 1 := by simp
        refine ⟨hb1, ?_⟩
        refine chainP_one ?_
        intro E0 hE
        go_wp2
        have hb2 := below_new (W1.alloc (.cells #[.int .i64 0, .int .i64 0, .string ⟨#[]⟩, .slice none 0 0, .int .i64 0] 122 (0, 0))) (.cells #[.int .i64 0, .int .i64 0, .string ⟨#[]⟩, .slice none 0 0, .int .i64 0] 122 (0, 0))
        have hg2 := heap_alloc_new (W1.alloc (.cells #[.int .i64 0, .int .i64 0, .string ⟨#[]⟩, .slice none 0 0, .int .i64 0] 122 (0, 0))) (.cells #[.int .i64 0, .int .i64 0, .string ⟨#[]⟩, .slice none 0 0, .int .i64 0] 122 (0, 0))
        rw [hz1] at hg2
        have hg1' := (hb2.block W1.heap.size (by omega)).trans hg1
        have hb2' := hb1.trans (hb2.mono hb1.size)
        have hz2 : ((W1.alloc (.cells #[.int .i64 0, .int .i64 0, .string ⟨#[]⟩, .slice none 0 0, .int .i64 0] 122 (0, 0))).alloc (.cells #[.int .i64 0, .int .i64 0, .string ⟨#[]⟩, .slice none 0 0, .int .i64 0] 122 (0, 0))).heap.size = W1.heap.size + 2 := by simp
        refine ⟨hb2', ?_⟩
        generalize (W1.alloc (.cells #[.int .i64 0, .int .i64 0, .string ⟨#[]⟩, .slice none 0 0, .int .i64 0] 122 (0, 0))).alloc (.cells #[.int .i64 0, .int .i64 0, .string ⟨#[]⟩, .slice none 0 0, .int .i64 0] 122 (0, 0)) = W2 at *
        have HG1 := Lib.hid hg1'
        have HG2 := Lib.hid hg2
        have HB3 := Lib.hid hb2'
        clear hb1 hg1 hz1 hb2 hg2 hg1' hb2'
        refine chainP_one ?_
        intro E0 hE
        refine wpList_store_row rfl 122 (.tmp 7) (.tmp 66) rfl (W1.heap.size + 1) #[.int .i64 cu.k, .int .i64 cu.n, .string cu.s, .slice qu cu.args.length ku, .int .i64 cu.lk] rfl rfl _ _ HG2.out size_rcell rfl (one5 _ _ _ _ _ _ _) ?_
        have hs7 := setRow_heap _ (W1.heap.size + 1) _ #[.int .i64 cu.k, .int .i64 cu.n, .string cu.s, .slice qu cu.args.length ku, .int .i64 cu.lk] _ _ HG2.out
        have hs8 := (setRow_other W2 (W1.heap.size + 1) (W1.heap.size) #[.int .i64 cu.k, .int .i64 cu.n, .string cu.s, .slice qu cu.args.length ku, .int .i64 cu.lk] (by omega)).trans HG1.out
        have hb4 := below_setRow HB3.out (show W1.heap.size ≤ W1.heap.size + 1 by omega) #[.int .i64 cu.k, .int .i64 cu.n, .string cu.s, .slice qu cu.args.length ku, .int .i64 cu.lk]
        refine hE _ _ ⟨hb4, ?_⟩
        simp only [Act.put, List.getElem?_toArray, List.getElem?_cons_succ, List.getElem?_cons_zero, Option.bind_some, List.setIfInBounds_toArray, List.set_cons_succ, List.set_cons_zero, Nat.reduceAdd]
        refine chainP_one ?_
        intro E0 hE
        refine wpList_store_row rfl 122 (.tmp 8) (.tmp 76) rfl (W1.heap.size) #[.int .i64 ct.k, .int .i64 ct.n, .string ct.s, .slice qt ct.args.length kt, .int .i64 ct.lk] rfl rfl _ _ hs8 size_rcell rfl (one5 _ _ _ _ _ _ _) ?_
        have ht8 := setRow_heap _ (W1.heap.size) _ #[.int .i64 ct.k, .int .i64 ct.n, .string ct.s, .slice qt ct.args.length kt, .int .i64 ct.lk] _ _ hs8
        have ht7 := (setRow_other (W2.setRow (W1.heap.size + 1) #[.int .i64 cu.k, .int .i64 cu.n, .string cu.s, .slice qu cu.args.length ku, .int .i64 cu.lk]) (W1.heap.size) (W1.heap.size + 1) #[.int .i64 ct.k, .int .i64 ct.n, .string ct.s, .slice qt ct.args.length kt, .int .i64 ct.lk] (by omega)).trans hs7
        have hb5 := below_setRow hb4 (show W1.heap.size ≤ W1.heap.size by omega) #[.int .i64 ct.k, .int .i64 ct.n, .string ct.s, .slice qt ct.args.length kt, .int .i64 ct.lk]
        refine hE _ _ ⟨hb5, ?_⟩
        simp only [Act.put, List.getElem?_toArray, List.getElem?_cons_succ, List.getElem?_cons_zero, Option.bind_some, List.setIfInBounds_toArray, List.set_cons_succ, List.set_cons_zero, Nat.reduceAdd]
        refine chainP_nil (rest_end (by decide) ?_)
        have hzd := HDB.out.size
        have hcp : BoCp W0 #[.int .i64 cu.k, .int .i64 cu.n, .string cu.s, .slice qu cu.args.length ku, .int .i64 cu.lk] #[.int .i64 ct.k, .int .i64 ct.n, .string ct.s, .slice qt ct.args.length kt, .int .i64 ct.lk] (W1.heap.size + 1) (W1.heap.size) _ := ⟨by omega, by omega, by omega, ht7, ht8, HDB.out.trans (hb5.mono HDB.out.size)⟩
        go_wp2
        go_meet
        exact ⟨_, _, rfl, rfl, hcp⟩
    case rest =>
    obtain ⟨r7, r8, rfl, rfl, hcp⟩ := hcut
    have HB3 := Lib.hid (HB2.out.below hcp.bel)
    have HST3 := Lib.hid (HST.out.below hcp.bel)
    have hwl := HB2.out.wl
    have HCP := Lib.hid hcp
    have hzc := hcp.bel.size
    obtain ⟨y0, y1, y2, y3, y4⟩ := row5r hcp.h7
    obtain ⟨v0, v1, v2, v3, v4⟩ := row5r hcp.h8
    obtain ⟨x0, x1, x2, x3⟩ := row4r HB3.out.row
    clear hcp
    rcases HWAY.out with ⟨kv, hway⟩ | ⟨kv, kt1, hway⟩
    · have b3 : (cu.k == 1) = true := by simpa using kv
      have hres : uniK sf (k + 1) S [(a, b)] = bindP S sf k xu xt ct.k := by
        rw [HONE.out, hway]
        generalize bindP S sf k xu xt ct.k = r
        obtain ⟨o, S', k'⟩ := r
        dsimp only
        by_cases ho : o = some true
        · rw [if_pos ho, uniK_nil, ho]
        · rw [if_neg ho]
      have HRES := Lib.hid hres
      have HKV := Lib.hid kv
      clear hres hway kv HONE HWAY IH
      by_cases hs : sf = true ∧ ct.k ≠ 1
      · obtain ⟨rfl, hk1⟩ := hs
        have b4 : (ct.k != 1) = true := by simpa using hk1
        have hbp : bindP S true k xu xt ct.k = (match (hasP S xu k [xt]).1 with
          | none => (none, S, (hasP S xu k [xt]).2)
          | some true => (some false, S, (hasP S xu k [xt]).2)
          | some false => (some true, bindS S xu xt, (hasP S xu k [xt]).2)) := by unfold bindP; exact if_pos ⟨rfl, hk1⟩
        have HBP := Lib.hid hbp
        have HQ := Lib.hid (ref_WHas HI.out HB3.out.nw k xu xt wc ⟨_, _, _, HB3.out.rr⟩ (by omega) (by omega) HB3.out.row)
        clear hbp hk1
        go_wp2_with fail
        refine HQ.out.mono ?_
        rintro e9 w9 ⟨n9, ov9, rfl, hr9, hk9, h9n, h9s⟩
        obtain ⟨r, hr⟩ : ∃ r, r = hasP S xu k [xt] := ⟨_, rfl⟩
        rw [← hr] at HBP h9n h9s ⊢
        have HB9 := Lib.hid (HB3.out.wrote hr9 hk9)
        have HK9 := Lib.hid hk9
        clear hr HQ x0 x1 x2 x3 y0 y1 y2 y3 y4 v0 v1 v2 v3 v4
        obtain ⟨x0, x1, x2, x3⟩ := row4r hr9
        clear hr9 hk9
        obtain ⟨o, k9⟩ := r
        dsimp only at h9n h9s HBP ⊢
        cases o with
        | none =>
          obtain rfl := h9n rfl
          go_wp2
          go_ret
          rw [HRES.out, HBP.out]
          exact ⟨rfl, _, _, _, _, BoSt.then HAL.out HST3.out (BoSt.start HB3.out HB9.out HK9.out (fun _ => rfl) fun h => absurd rfl h)⟩
        | some bb =>
          obtain ⟨rfl, rfl⟩ := h9s (by simp)
          cases bb with
          | true =>
            go_wp2
            go_ret
            rw [HRES.out, HBP.out]
            exact ⟨rfl, _, _, _, _, BoSt.then HAL.out HST3.out (BoSt.start HB3.out HB9.out HK9.out (fun h => by cases h) fun _ => ⟨rfl, rfl⟩)⟩
          | false =>
            have hq := ref_BindA (S := S) (g := g) (cap := cap) w9 (by rw [hSN]; exact HB9.out.rr) HI.out.stoOk HI.out.kindOk 0 0 xu xt xu xt ⟨hxl, by rw [(List.getElem?_eq_some_iff.1 HXU.out).2, HXF.out.1.1]; decide, rfl⟩ ⟨hyl, by rw [(List.getElem?_eq_some_iff.1 HXT.out).2, HXF.out.1.2]; decide, rfl⟩ (by rw [(List.getElem?_eq_some_iff.1 HXU.out).2]; exact HKV.out) HXN.out
            have HQ2 := Lib.hid hq
            clear hq
            go_wp2_with fail
            refine HQ2.out.mono ?_
            rintro e10 w10 ⟨rfl, hd10⟩
            rw [hSN] at hd10
            obtain ⟨E5, bv5, hb5⟩ := BoSt.bound HB9.out hd10 rfl
            have HB5 := Lib.hid hb5
            clear hd10 hb5 HQ2 x0 x1 x2 x3
            go_wp2
            go_ret
            rw [HRES.out, HBP.out]
            exact ⟨rfl, _, _, _, _, BoSt.then HAL.out HST3.out (BoSt.then (fun b hb => HB3.out.rr.dl b (HB3.out.rr.da b hb)) (BoSt.start HB3.out HB9.out HK9.out (o := some true) (fun h => by cases h) fun _ => ⟨rfl, rfl⟩) HB5.out)⟩
      · have hbp : bindP S sf k xu xt ct.k = (some true, bindS S xu xt, k) := by unfold bindP; rw [if_neg hs]
        have HBP := Lib.hid hbp
        have hq := ref_BindA (S := S) (g := g) (cap := cap) wc (by rw [hSN]; exact HB3.out.rr) HI.out.stoOk HI.out.kindOk 0 0 xu xt xu xt ⟨hxl, by rw [(List.getElem?_eq_some_iff.1 HXU.out).2, HXF.out.1.1]; decide, rfl⟩ ⟨hyl, by rw [(List.getElem?_eq_some_iff.1 HXT.out).2, HXF.out.1.2]; decide, rfl⟩ (by rw [(List.getElem?_eq_some_iff.1 HXU.out).2]; exact HKV.out) HXN.out
        have HQ2 := Lib.hid hq
        have hb4 : sf = false ∨ (sf = true ∧ (ct.k != 1) = false) := by
          cases hsf : sf with
          | false => exact .inl rfl
          | true => exact .inr ⟨rfl, by simpa using fun e => hs ⟨hsf, e⟩⟩
        clear hq hbp hs
        have hfin : ∀ w10, RowDid wc w10 E q (bindS S xu xt) (.slice (some ⟨g, 0, none⟩) N cap) A → BoDid w q wb sf E (.slice (some ⟨g, 0, none⟩) N cap) A (bindP S sf k xu xt ct.k) w10 := fun w10 hd10 => by
          obtain ⟨E5, bv5, hb5⟩ := BoSt.bound HB3.out hd10 rfl
          rw [HBP.out]
          exact ⟨_, _, _, _, BoSt.then HAL.out HST3.out hb5⟩
        have HFIN := Lib.hid hfin
        clear hfin
        rcases hb4 with rfl | ⟨rfl, b4⟩
        · go_wp2_with fail
          refine HQ2.out.mono ?_
          rintro e10 w10 ⟨rfl, hd10⟩
          rw [hSN] at hd10
          have HF := Lib.hid (HFIN.out w10 hd10)
          clear hd10 HQ2 x0 x1 x2 x3 y0 y1 y2 y3 y4 v0 v1 v2 v3 v4
          go_wp2
          go_ret
          rw [HRES.out]
          exact ⟨by rw [HBP.out]; rfl, HF.out⟩
        · go_wp2_with fail
          refine HQ2.out.mono ?_
          rintro e10 w10 ⟨rfl, hd10⟩
          rw [hSN] at hd10
          have HF := Lib.hid (HFIN.out w10 hd10)
          clear hd10 HQ2 x0 x1 x2 x3 y0 y1 y2 y3 y4 v0 v1 v2 v3 v4
          go_wp2
          go_ret
          rw [HRES.out]
          exact ⟨by rw [HBP.out]; rfl, HF.out⟩
    have b3 : (cu.k == 1) = false := by simpa using kv
    obtain ⟨Z, hZ⟩ : ∃ Z, Z = (cu.args.map Int.toNat).zip (ct.args.map Int.toNat) := ⟨_, rfl⟩
    rw [← hZ] at hway
    have hno : cu.k ≠ ct.k ∨ cu.n ≠ ct.n ∨ cu.s ≠ ct.s ∨ cu.args.length ≠ ct.args.length → uniK sf (k + 1) S [(a, b)] = (some false, S, k) := fun h => by rw [HONE.out, hway, if_pos h]; simp
    have HNO := Lib.hid (fun h => (by rw [hno h]; exact ⟨rfl, E, bv, _, _, ⟨HST3.out.bo, HST3.out.kp, HST3.out.gr, HST3.out.ar, fun h => (by cases h), fun _ => ⟨rfl, rfl⟩⟩⟩ : (Ending.returned (.bool false) = .returned (.bool (hasB (uniK sf (k + 1) S [(a, b)]).1))) ∧ BoDid w q wb sf E (.slice (some ⟨g, 0, none⟩) N cap) A (uniK sf (k + 1) S [(a, b)]) wc))
    clear hno kv kt1 HWAY
    by_cases e1 : cu.k = ct.k
    case neg =>
      have b4 : (cu.k != ct.k) = true := by simpa using e1
      have HR := Lib.hid (HNO.out (.inl e1))
      clear HNO e1 hway
      go_wp2
      go_ret
      exact HR.out
    have b4 : (cu.k != ct.k) = false := by simpa using e1
    by_cases e2 : cu.n = ct.n
    case neg =>
      have b5 : (cu.n != ct.n) = true := by simpa using e2
      have HR := Lib.hid (HNO.out (.inr (.inl e2)))
      clear HNO e1 e2 hway
      go_wp2
      go_ret
      exact HR.out
    have b5 : (cu.n != ct.n) = false := by simpa using e2
    by_cases e3 : cu.s = ct.s
    case neg =>
      have b6 : (cu.s.toList == ct.s.toList) = false := by
        rw [beq_eq_false_iff_ne]
        exact fun e => e3 (bytes_ext e)
      have HR := Lib.hid (HNO.out (.inr (.inr (.inl e3))))
      clear HNO e1 e2 e3 hway
      go_wp2
      go_ret
      exact HR.out
    have b6 : (cu.s.toList == ct.s.toList) = true := by rw [e3]; exact beq_self_eq_true _
    by_cases e4 : cu.args.length = ct.args.length
    case neg =>
      have b7 : ((cu.args.length : Int) != (ct.args.length : Int)) = true := by simp; omega
      have HR := Lib.hid (HNO.out (.inr (.inr (.inr e4))))
      clear HNO e1 e2 e3 e4 hway
      go_wp2
      go_ret
      exact HR.out
    have b7 : ((cu.args.length : Int) != (ct.args.length : Int)) = false := by simp; omega
    rw [if_neg (by rintro (e | e | e | e); exact e e1; exact e e2; exact e e3; exact e e4)] at hway
    have hres : uniK sf (k + 1) S [(a, b)] = uniK sf k S Z := by rw [HONE.out, hway]; simp
    have hZl : Z.length = cu.args.length := by rw [hZ, List.length_zip, List.length_map, List.length_map]; omega
    have HZL := Lib.hid hZl
    have HZ := Lib.hid hZ
    have HRES := Lib.hid hres
    have HE4 := Lib.hid e4
    have hr7e : ¬ E r7 := fun e => by have := HB2.out.rr.dl r7 e; have := HCP.out.l7; omega
    have hr8e : ¬ E r8 := fun e => by have := HB2.out.rr.dl r8 e; have := HCP.out.l8; omega
    have hst : BoRel w q wb sf E (.slice (some ⟨g, 0, none⟩) N cap) A k S Z W0 #[.int .i64 cu.k, .int .i64 cu.n, .string cu.s, .slice qu cu.args.length ku, .int .i64 cu.lk] #[.int .i64 ct.k, .int .i64 ct.n, .string ct.s, .slice qt ct.args.length kt, .int .i64 ct.lk] r7 r8 (.int .i64 ((0 : Nat) : Int)) wc := ⟨0, S, k, E, bv, _, by omega, rfl, by rw [List.take_zero]; exact uniK_nil sf k S, ⟨HST3.out.bo, HST3.out.kp, HST3.out.gr, HST3.out.ar, fun h => (by cases h), fun _ => ⟨rfl, rfl⟩⟩, HCP.out.h7, hr7e, HCP.out.h8, hr8e⟩
    have HREL := Lib.hid hst
    have hl7 : wb ≠ r7 ∧ wb ≠ r8 := ⟨fun e => by have := HCP.out.l7; omega, fun e => by have := HCP.out.l8; omega⟩
    have HL7 := Lib.hid hl7
    have HAW := Lib.hid (show ∀ b, A b → (Value.slice (some ⟨g, 0, none⟩) N cap).ownBlock ≠ some b → W0.heap[b]? = w.heap[b]? from HST.out.ar)
    have hcal : cu.args.length ≤ 255 := hxal
    clear hst hres hway hZ e1 e2 e3 e4 hr7e hr8e HNO HONE hl7 x0 x1 x2 x3 hZl hyal
    go_wp2
    go_loopw [138] (fun v138 wr => BoRel w q wb sf E (.slice (some ⟨g, 0, none⟩) N cap) A k S Z W0 #[.int .i64 cu.k, .int .i64 cu.n, .string cu.s, .slice qu cu.args.length ku, .int .i64 cu.lk] #[.int .i64 ct.k, .int .i64 ct.n, .string ct.s, .slice qt ct.args.length kt, .int .i64 ct.lk] r7 r8 v138 wr) (fun v138 _ => cu.args.length - (intOf v138).toNat)
    case atStart => exact HREL.out
    case round =>
      clear HREL y0 y1 y2 y3 y4 v0 v1 v2 v3 v4 b4 b5 b6 b7
      obtain ⟨i, S1, k1, E1, bv1, n1, hi, rfl, hu1', hbo, hrows⟩ := hrel
      have HUN := Lib.hid hu1'
      have HBO := Lib.hid hbo
      have HROW := Lib.hid hrows
      have hi' : i ≤ cu.args.length := by have := HZL.out; omega
      clear hu1' hbo hrows hi
      by_cases hil : i < cu.args.length
      · have b8 : decide ((i : Int) < (cu.args.length : Int)) = true := by simp; omega
        go_upto_region 21 with fail
        refine wp_region_rest (by kernel_rfl) ?_
        have hdb := (Below.refl wr.heap.size wr).drew
        have HBO1 := Lib.hid (HBO.out.below hdb)
        have hr7l := (Array.getElem?_eq_some_iff.1 HROW.out.1).1
        have hr8l := (Array.getElem?_eq_some_iff.1 HROW.out.2.2.1).1
        have HROW1 := Lib.hid (show (wr.drew.heap[r7]? = some (.cells #[.int .i64 cu.k, .int .i64 cu.n, .string cu.s, .slice qu cu.args.length ku, .int .i64 cu.lk] 122 (0, 0)) ∧ ¬ E1 r7 ∧ wr.drew.heap[r8]? = some (.cells #[.int .i64 ct.k, .int .i64 ct.n, .string ct.s, .slice qt ct.args.length kt, .int .i64 ct.lk] 122 (0, 0)) ∧ ¬ E1 r8) from ⟨(hdb.block r7 hr7l).trans HROW.out.1, HROW.out.2.1, (hdb.block r8 hr8l).trans HROW.out.2.2.1, HROW.out.2.2.2⟩)
        clear hdb HBO HROW hr7l hr8l
        generalize wr.drew = W5 at *
        have hkeep : ∀ b, A b ∧ g ≠ b ∧ b < W0.heap.size → b < W0.heap.size → W5.heap[b]? = W0.heap[b]? := fun b hb _ => by
          have hg : (Value.slice (some ⟨g, 0, none⟩) N cap).ownBlock ≠ some b := fun e => hb.2.1 (by simpa [Value.ownBlock] using e)
          exact (HBO1.out.ar b hb.1 hg).trans (HAW.out b hb.1 hg).symm
        have hau := HAU.out.move (w' := W5) (P' := fun _ => True) (fun _ _ _ => trivial) hkeep
        have hat := HAT.out.move (w' := W5) (P' := fun _ => True) (fun _ _ _ => trivial) hkeep
        have he4 := HE4.out
        obtain ⟨ba, oa, e5, xa⟩ := ints_pickA hau i hil
        obtain ⟨bb, ob, e6, xb⟩ := ints_pickA hat i (by omega)
        subst e5 e6
        have hra := ints_roomA hau
        have hrb := ints_roomA hat
        obtain ⟨x, hx⟩ : ∃ x : Nat, cu.args[i] = (x : Int) := ⟨_, (Int.toNat_of_nonneg (HXA.out _ (List.getElem_mem hil)).1).symm⟩
        obtain ⟨y, hy⟩ : ∃ y : Nat, ct.args[i]'(by omega) = (y : Int) := ⟨_, (Int.toNat_of_nonneg (HYA.out _ (List.getElem_mem (by omega))).1).symm⟩
        have hxN := (HXA.out _ (List.getElem_mem hil)).2
        have hyN := (HYA.out _ (List.getElem_mem (show i < ct.args.length by omega))).2
        rw [hx] at xa hxN
        rw [hy] at xb hyN
        have hzl := HZL.out
        have hzi : Z[i]'(by omega) = (x, y) := by
          simp only [HZ.out, List.getElem_zip, List.getElem_map, hx, hy]
          rfl
        have htk := uniK_take sf k S Z i (by omega) HUN.out
        rw [hzi] at htk
        have hle := uniK_le sf k S (Z.take i)
        rw [HUN.out] at hle
        dsimp only at hle
        have hext := uniP_ext sf k k S (Z.take i) HI.out (fun p hp => by
          have hp' := List.mem_of_mem_take hp
          rw [HZ.out] at hp'
          obtain ⟨j, hj, rfl⟩ := List.mem_iff_getElem.1 hp'
          rw [List.length_zip, List.length_map, List.length_map] at hj
          simp only [List.getElem_zip, List.getElem_map]
          have h1 := HXA.out _ (List.getElem_mem (show j < cu.args.length by omega))
          have h2 := HYA.out _ (List.getElem_mem (show j < ct.args.length by omega))
          exact ⟨by omega, by omega⟩)
        have hun : (uniP sf k k S (Z.take i)).2.1 = S1 := by have := HUN.out; unfold uniK at this; rw [this]
        rw [hun] at hext
        have hlen1 := hext.len
        have hn1 := (HBO1.out.ok (by simp)).2
        dsimp only at hn1
        have hbo1 := HBO1.out.bo
        rw [hn1] at hbo1
        have hq := IH.out k1 (by omega) S1 E1 bv1 x y W5 hext.inv (by omega) hbo1 (by omega) (by omega) (by omega)
        have HQ := Lib.hid hq
        have HTK := Lib.hid htk
        obtain ⟨y0, y1, y2, y3, y4⟩ := row5r HROW1.out.1
        obtain ⟨v0, v1, v2, v3, v4⟩ := row5r HROW1.out.2.2.1
        clear hkeep hau hat hx hy hzi htk hext hun hlen1 hbo1 hq y0 y1 y2 y4 v0 v1 v2 v4 hn1
        refine rest_chainP (fun u => u = W5) 0 11 (.soft 0 (.soft 1 (.soft 2 (.soft 3 (.soft 4 (.soft 5 (.soft 6 (.soft 7 (.soft 8 (.soft 9 (.soft 10 .nil))))))))))) (.soft _ (.soft _ (.soft _ (.soft _ (.soft _ (.soft _ (.soft _ (.soft _ (.soft _ (.soft _ (.soft _ .nil))))))))))) ⟨rfl, ⟨rfl, ⟨rfl, ⟨rfl, ⟨rfl, ⟨rfl, ⟨rfl, ⟨rfl, ⟨rfl, ⟨rfl, ⟨rfl, trivial⟩⟩⟩⟩⟩⟩⟩⟩⟩⟩⟩ (by kernel_rfl) (by kernel_rfl) (by kernel_rfl) (by kernel_rfl) (.inr (by kernel_rfl)) rfl ?_
        refine chainP_soft (a1 := ?ma27) (by kernel_rfl) (by kernel_rfl) ?mh27 ?mr27
        case mh27 =>
          intro u hu E hE
          subst hu
          go_wp2
          rfl
        refine chainP_soft (a1 := ?ma28) (by kernel_rfl) (by kernel_rfl) ?mh28 ?mr28
        case mh28 =>
          intro u hu E hE
          subst hu
          go_wp2
          rfl
        refine chainP_soft (a1 := ?ma29) (by kernel_rfl) (by kernel_rfl) ?mh29 ?mr29
        case mh29 =>
          intro u hu E hE
          subst hu
          go_wp2
          rfl
        refine chainP_soft (a1 := ?ma30) (by kernel_rfl) (by kernel_rfl) ?mh30 ?mr30
        case mh30 =>
          intro u hu E hE
          subst hu
          go_wp2
          rfl
        refine chainP_soft (a1 := ?ma31) (by kernel_rfl) (by kernel_rfl) ?mh31 ?mr31
        case mh31 =>
          intro u hu E hE
          subst hu
          go_wp2
          rfl
        refine chainP_soft (a1 := ?ma32) (by kernel_rfl) (by kernel_rfl) ?mh32 ?mr32
        case mh32 =>
          intro u hu E hE
          subst hu
          go_wp2
          rfl
        refine chainP_soft (a1 := ?ma33) (by kernel_rfl) (by kernel_rfl) ?mh33 ?mr33
        case mh33 =>
          intro u hu E hE
          subst hu
          go_wp2
          rfl
        refine chainP_soft (a1 := ?ma34) (by kernel_rfl) (by kernel_rfl) ?mh34 ?mr34
        case mh34 =>
          intro u hu E hE
          subst hu
          go_wp2
          rfl
        refine chainP_soft (a1 := ?ma35) (by kernel_rfl) (by kernel_rfl) ?mh35 ?mr35
        case mh35 =>
          intro u hu E hE
          subst hu
          go_wp2
          rfl
        refine chainP_soft (a1 := ?ma36) (by kernel_rfl) (by kernel_rfl) ?mh36 ?mr36
        case mh36 =>
          intro u hu E hE
          subst hu
          go_wp2
          rfl
        refine chainP_soft (a1 := ?ma37) (by kernel_rfl) (by kernel_rfl) ?mh37 ?mr37
        case mh37 =>
          intro u hu E hE
          subst hu
          go_wp2
          rfl
        refine chainP_nil ?_
        refine rest_lineL 11 13 [_, _] rfl (by kernel_rfl) (by decide) (by decide) (by kernel_rfl) ?_
        go_wp2_with fail
        refine HQ.out.mono ?_
        rintro e9 w9 ⟨rfl, E9, bv9, n9, ov9, hb9⟩
        obtain ⟨r, hr⟩ : ∃ r, r = uniK sf k1 S1 [(x, y)] := ⟨_, rfl⟩
        rw [← hr] at hb9 HTK ⊢
        have hz5 := hb9.kp.size
        have hr7l := (Array.getElem?_eq_some_iff.1 HROW1.out.1).1
        have hr8l := (Array.getElem?_eq_some_iff.1 HROW1.out.2.2.1).1
        have HROW9 := Lib.hid (show (w9.heap[r7]? = some (.cells #[.int .i64 cu.k, .int .i64 cu.n, .string cu.s, .slice (some ⟨ba, oa, none⟩) cu.args.length ku, .int .i64 cu.lk] 122 (0, 0)) ∧ ¬ E9 r7 ∧ w9.heap[r8]? = some (.cells #[.int .i64 ct.k, .int .i64 ct.n, .string ct.s, .slice (some ⟨bb, ob, none⟩) ct.args.length kt, .int .i64 ct.lk] 122 (0, 0)) ∧ ¬ E9 r8) from
          ⟨(hb9.kp.block r7 hr7l fun e => e.elim HROW1.out.2.1 fun e => HL7.out.1 e.symm).trans HROW1.out.1, fun e => (hb9.gr r7 e).elim HROW1.out.2.1 fun e => by omega, (hb9.kp.block r8 hr8l fun e => e.elim HROW1.out.2.2.2 fun e => HL7.out.2 e.symm).trans HROW1.out.2.2.1, fun e => (hb9.gr r8 e).elim HROW1.out.2.2.2 fun e => by omega⟩)
        have HB9 := Lib.hid (BoSt.then HAL.out HBO1.out hb9)
        clear hr hb9 HQ HBO1 HROW1 xa xb y3 v3 hr7l hr8l hz5
        obtain ⟨o, S9, k9⟩ := r
        dsimp only
        by_cases ho : o = some true
        · subst ho
          have HNX := Lib.hid (show BoRel w q wb sf E (.slice (some ⟨g, 0, none⟩) N cap) A k S Z W0 #[.int .i64 cu.k, .int .i64 cu.n, .string cu.s, .slice (some ⟨ba, oa, none⟩) cu.args.length ku, .int .i64 cu.lk] #[.int .i64 ct.k, .int .i64 ct.n, .string ct.s, .slice (some ⟨bb, ob, none⟩) ct.args.length kt, .int .i64 ct.lk] r7 r8 (.int .i64 ((i + 1 : Nat) : Int)) w9 from ⟨i + 1, S9, k9, E9, bv9, n9, by omega, rfl, HTK.out, by have := (HB9.out.ok (by simp)).1; rw [this] at HB9; exact HB9.out, HROW9.out⟩)
          have bo : hasB (some true) = true := rfl
          rw [bo]
          clear HTK HB9 HROW9 HUN
          go_wp2
          refine then_rest (rest_end (by decide) ?_)
          go_wp2
          go_roundw
          case measure => simp [intOf]; omega
          case rel => exact HNX.out
        · have hfull : uniK sf (k + 1) S [(a, b)] = (o, S9, k9) := by rw [HRES.out, uniK_stop sf k S Z (i + 1) (by rw [HTK.out]; exact ho), HTK.out]
          have HF := Lib.hid hfull
          have bo : hasB o = false := by unfold hasB; simpa using ho
          rw [bo]
          clear hfull HTK HROW9 HUN
          go_wp2
          refine then_rest (rest_end (by decide) ?_)
          go_wp2
          go_ret
          rw [HF.out]
          exact ⟨by rw [bo]; rfl, _, _, _, _, HB9.out⟩
      · have b8 : decide ((i : Int) < (cu.args.length : Int)) = false := by simp; omega
        have hfull : uniK sf (k + 1) S [(a, b)] = (some true, S1, k1) := by rw [HRES.out, ← HUN.out, List.take_of_length_le (by have := HZL.out; omega)]
        have HF := Lib.hid hfull
        clear hfull
        go_wp2
        go_ret
        rw [HF.out]
        exact ⟨rfl, _, _, _, _, HBO.out⟩
end Go.Proofs.Ytoklbeogmcdgaaa.Tms

