/-
  Layer texts, glued and made small.
-/
import Derived.Test.YtcbijikalfodnaaG17
import Derived.Handy
set_option linter.unusedVariables false
set_option linter.unusedSimpArgs false
set_option maxRecDepth 100000
set_option maxHeartbeats 16000000
namespace Go.Proofs.Ytcbijikalfodnaa.Tms
open Go Go.RowKit Go.Proofs.Ytcbijikalfodnaa.Reg Go.Proofs.Ytcbijikalfodnaa.Rws Go.Proofs.Ytcbijikalfodnaa.Maps
open Go.Proofs.Ytcbijikalfodnaa.Cod (Ins Cod sk check slotsN InsSl InsAt codVal go_check Says says)
theorem compE_ok {h b : Tm} (e : (compE h b).2 = 0) : checkT h = 0 ∧ checkT b = 0 ∧ (h.k = 3 ∨ h.k = 4) ∧ h.size + b.size ≤ 20000 ∧ compE h b = (compC h b, 0) := by
 unfold compE at e ⊢
 by_cases h1 : checkT h ≠ 0
 ·rw [if_pos h1] at e; exact absurd e h1
 rw [if_neg h1] at e ⊢
 by_cases h2 : checkT b ≠ 0
 ·rw [if_pos h2] at e; exact absurd e h2
 rw [if_neg h2] at e ⊢
 by_cases h3 : h.k ≠ 3 ∧ h.k ≠ 4
 ·rw [if_pos h3] at e; exact absurd e (by decide)
 rw [if_neg h3] at e ⊢
 by_cases h4 : 20000 < h.size + b.size
 ·rw [if_pos h4] at e; exact absurd e (by decide)
 rw [if_neg h4]; exact ⟨by simpa using h1, by simpa using h2, by omega, by omega, rfl⟩
structure SfAt (w0 : World) (p bh bb cr : Nat) (h b : Tm) (a1 a2 : Option Addr) (c1 c2 : Nat) (C : Cod) (lv : Value) (S : Sto) (D : Nat → Prop) (w : World) : Prop where
 law : Law8 w0 p S D w
 hr : RowF D w bh (rowT h a1 c1)
 br : RowF D w bb (rowT b a2 c2)
 hi : IsTm w (Free D w) (aggT h a1 c1) h
 bi : IsTm w (Free D w) (aggT b a2 c2) b
 cx : Cx21 cr C lv D w
section
variable {w0 w w' : World} {p bh bb cr : Nat} {h b : Tm} {a1 a2 : Option Addr} {c1 c2 : Nat} {C : Cod} {lv : Value} {S S' : Sto} {D D' : Nat → Prop}
theorem SfAt.step (x : SfAt w0 p bh bb cr h b a1 a2 c1 c2 C lv S D w) (hl : Law8 w0 p S' D' w') (hs : Step D w D' w') : SfAt w0 p bh bb cr h b a1 a2 c1 c2 C lv S' D' w' :=
 ⟨hl, x.hr.step hs, x.br.step hs, x.hi.imp (fun b hb => (hs.blk b hb).1) fun b hb _ => (hs.blk b hb).2, x.bi.imp (fun b hb => (hs.blk b hb).1) fun b hb _ => (hs.blk b hb).2, x.cx.step hs⟩
theorem SfAt.below (x : SfAt w0 p bh bb cr h b a1 a2 c1 c2 C lv S D w) (hb : Below w.heap.size w w') : SfAt w0 p bh bb cr h b a1 a2 c1 c2 C lv S D w' := x.step (x.law.below hb).1 (x.law.below hb).2.1
end
theorem law_self (L M : List Pt) (v1 v2 : Value) (w : World) (h1 : PtSl w v1 L) (h2 : PtSl w v2 M) : Calls Try.prog 4 #[v1, v2] w (Says true w) := by
 obtain ⟨pa, pc, rfl, -, -⟩ := h1.form; obtain ⟨qa, qc, rfl, -, -⟩ := h2.form; have H1 := Lib.hid h1; have H2 := Lib.hid h2; clear h1 h2
 go_enter Try.func4, Try.ntmps4
 go_wp2_with fail
 refine (alive21 w).mono ?_; rintro e2 w2 ⟨rfl, hb2⟩; have HB2 := Lib.hid hb2; replace H1 := Lib.hid (H1.out.below hb2); replace H2 := Lib.hid (H2.out.below hb2); clear hb2
 go_wp2_with fail
 refine (ref_great L _ _ H1.out).mono ?_; rintro e3 w3 ⟨rfl, rfl⟩
 by_cases hg : 60 < L.length
 ·have d1 : decide (60 < (L.length : Int)) = true := by simp; omega
  rw [d1]; clear hg; go_wp2; go_ret; exact says rfl HB2.out
 have d1 : decide (60 < (L.length : Int)) = false := by simp; omega
 rw [d1]; have HG1 := Lib.hid hg; clear hg d1
 go_wp2_with fail
 refine (ref_great M _ _ H2.out).mono ?_; rintro e3 w3 ⟨rfl, rfl⟩
 by_cases hg : 60 < M.length
 ·have d1 : decide (60 < (M.length : Int)) = true := by simp; omega
  rw [d1]; clear hg; go_wp2; go_ret; exact says rfl HB2.out
 have d1 : decide (60 < (M.length : Int)) = false := by simp; omega
 rw [d1]; have HG2 := Lib.hid hg; clear hg d1
 go_wp2_with fail
 refine (ref_good L _ _ (by have := HG1.out; omega) H1.out).mono ?_; rintro e4 w4 ⟨v4, rfl, hi4, hb4⟩; obtain ⟨a1, c1, rfl⟩ := hi4.form; obtain ⟨head, hhead⟩ : ∃ t, t = goodT L := ⟨_, rfl⟩; rw [← hhead] at hi4 ⊢; have HI4 := Lib.hid hi4.lt; have HB4 := Lib.hid (HB2.out.trans (hb4.mono HB2.out.size)); replace H2 := Lib.hid (H2.out.below hb4); have HZ1 := Lib.hid (show head.size ≤ 421 by rw [hhead]; have := goodT_size L; have := HG1.out; omega); clear hi4 hb4 hhead H1 HB2
 go_wp2_with fail
 refine (ref_good M _ _ (by have := HG2.out; omega) H2.out).mono ?_; rintro e5 w5 ⟨v5, rfl, hi5, hb5⟩; obtain ⟨a2, c2, rfl⟩ := hi5.form; obtain ⟨body, hbody⟩ : ∃ t, t = goodT M := ⟨_, rfl⟩; rw [← hbody] at hi5 ⊢; have HI5 := Lib.hid hi5.lt; replace HI4 := Lib.hid (HI4.out.below hb5); have HB5 := Lib.hid (HB4.out.trans (hb5.mono HB4.out.size)); have HZ2 := Lib.hid (show body.size ≤ 421 by rw [hbody]; have := goodT_size M; have := HG2.out; omega); clear hi5 hb5 hbody H2 HB4 HG1 HG2; obtain ⟨t0, t1, tsz, tbl⟩ := two w5 (rowT head a1 c1) (rowT body a2 c2); replace HI4 := Lib.hid (HI4.out.below tbl); replace HI5 := Lib.hid (HI5.out.below tbl); have HB6 := Lib.hid (HB5.out.trans (tbl.mono HB5.out.size)); obtain ⟨x0, x1, x2, x3⟩ := row4 t0; obtain ⟨y0, y1, y2, y3⟩ := row4 t1; have HT0 := Lib.hid t0; have HT1 := Lib.hid t1; have HTS := Lib.hid tsz; clear t0 t1 tsz tbl HB5
 go_upto_region 6 with fail
 generalize (w5.alloc (.cells #[.int .i64 head.k, .int .i64 head.n, .string head.s, .slice a1 head.args.length c1] 49 (0, 0))).alloc (.cells #[.int .i64 body.k, .int .i64 body.n, .string body.s, .slice a2 body.args.length c2] 49 (0, 0)) = w6 at *; obtain ⟨bb, hbb⟩ : ∃ x, x = w5.heap.size + 1 := ⟨_, rfl⟩; rw [← hbb] at HT1 y0 y1 y2 y3 ⊢; obtain ⟨bh, hbh⟩ : ∃ x, x = w5.heap.size := ⟨_, rfl⟩; rw [← hbh] at HT0 x0 x1 x2 x3 ⊢; clear hbb hbh HTS
 go_wp2_with fail
 refine (go_CompileP head body _ _ _ _ w6 (by have := HZ1.out; omega) (by have := HZ2.out; omega) HI4.out HI5.out).mono ?_; rintro e7 w7 ⟨vs, rfl, hins, hb7, hown⟩; obtain ⟨ma, mc, rfl⟩ := hins.form; obtain ⟨E, hE⟩ : ∃ x, x = (compE head body).2 := ⟨_, rfl⟩; obtain ⟨C, hC⟩ : ∃ x, x = (compE head body).1 := ⟨_, rfl⟩; rw [← hE, ← hC]; rw [← hC] at hins hown; have HB7 := Lib.hid (HB6.out.trans (hb7.mono HB6.out.size)); have r0 := (hb7.block _ (Array.getElem?_eq_some_iff.1 HT0.out).1).trans HT0.out; have r1 := (hb7.block _ (Array.getElem?_eq_some_iff.1 HT1.out).1).trans HT1.out; replace HI4 := Lib.hid (HI4.out.below hb7); replace HI5 := Lib.hid (HI5.out.below hb7); have hb8 := below_new w7 (.cells #[.string C.name, .int .i64 C.args, .int .i64 C.slots, .int .i64 C.body, .slice ma C.l.length mc] 30 (0, 0)); have hr8 := heap_alloc_new w7 (.cells #[.string C.name, .int .i64 C.args, .int .i64 C.slots, .int .i64 C.body, .slice ma C.l.length mc] 30 (0, 0)); have HB8 := Lib.hid (HB7.out.trans (hb8.mono HB7.out.size)); have HR0 := Lib.hid ((hb8.block _ (Array.getElem?_eq_some_iff.1 r0).1).trans r0); have HR1 := Lib.hid ((hb8.block _ (Array.getElem?_eq_some_iff.1 r1).1).trans r1); have HRC := Lib.hid hr8; have HINS := Lib.hid (hins.below hb8); replace HI4 := Lib.hid (HI4.out.below hb8); replace HI5 := Lib.hid (HI5.out.below hb8); have HEC := Lib.hid (And.intro hE hC); clear hins hb7 hown hE hC hb8 hr8 r0 r1 HB6 HB7 HT0 HT1 x0 x1 x2 x3 y0 y1 y2 y3
 go_upto_region 7 with fail
 generalize w7.alloc (.cells #[.string C.name, .int .i64 C.args, .int .i64 C.slots, .int .i64 C.body, .slice ma C.l.length mc] 30 (0, 0)) = w8 at *; obtain ⟨cr, hcr⟩ : ∃ x, x = w7.heap.size := ⟨_, rfl⟩; rw [← hcr] at HRC ⊢; clear hcr
 by_cases he : E = 0
 case neg =>
  have d1 : (E != 0) = true := by simpa using he
  clear he; go_wp2; go_ret; exact says rfl HB8.out
 subst he; obtain ⟨hE, hC⟩ := HEC.out; obtain ⟨k1, k2, hk, hk4, hce⟩ := compE_ok hE.symm; rw [hce] at hC; have mh := check_may k1; have mb := check_may k2; have hck : check C = 0 := by rw [hC]; exact compC_ok mh mb hk hk4
 obtain ⟨ca, cj, cs, hco⟩ := check_facts hck; have HCK := Lib.hid (And.intro hck (And.intro hk (And.intro mh (And.intro mb (And.intro k1 hC))))); have HCO := Lib.hid hco; clear HEC hE hC k1 k2 hk hk4 hce mh mb hck hco
 go_wp2_with fail
 refine (law_NewE w w8 HB8.out 2000 (by decide) (by decide)).mono ?_; rintro e9 w9 ⟨rfl, D9, l9, hb9, hf9⟩; have hlt0 := (Array.getElem?_eq_some_iff.1 HR0.out).1; have hlt1 := (Array.getElem?_eq_some_iff.1 HR1.out).1; have hltc := (Array.getElem?_eq_some_iff.1 HRC.out).1
 have hsf : SfAt w w8.heap.size bh bb cr head body a1 a2 c1 c2 C (.slice ma C.l.length mc) ⟨2000, [], []⟩ D9 w9 :=
  ⟨l9, ⟨hf9 _ hlt0, (hb9.block _ hlt0).trans HR0.out⟩, ⟨hf9 _ hlt1, (hb9.block _ hlt1).trans HR1.out⟩, HI4.out.lt.imp (fun b hb => hf9 b hb.2) fun b hb _ => hb9.block b hb.2, HI5.out.lt.imp (fun b hb => hf9 b hb.2) fun b hb _ => hb9.block b hb.2,
    ⟨⟨hf9 _ hltc, (hb9.block _ hltc).trans HRC.out⟩, HINS.out.below hb9, fun b e => by
      by_cases hn : C.l = []
      ·exfalso
       have := HCO.out.body; have := HCO.out.all; have h2 := HCO.out.rest; rw [hn] at h2; obtain ⟨i, l', q, hd, -, -, -⟩ := sk_one h2
       simp at hd
      ·obtain ⟨b', e1, h1⟩ := insSl_blk HINS.out hn
       obtain rfl : b' = b := by rw [e1] at e; exact Option.some.inj e
       exact hf9 b' h1⟩⟩
 have HSF := Lib.hid hsf; obtain ⟨p, hp⟩ : ∃ x, x = w8.heap.size := ⟨_, rfl⟩; rw [← hp] at HSF ⊢; clear l9 hb9 hf9 hlt0 hlt1 hltc hsf hp HR0 HR1 HRC HINS HI4 HI5 HB8; obtain ⟨h10, s10, f10, -⟩ := HSF.out.law.alloc (.map #[] 0); have hv10 : VarsAt w D9 w9.heap.size [] (w9.alloc (.map #[] 0)) := ⟨⟨[], IMapB.made w9, List.Perm.refl _⟩, f10.1, HSF.out.law.bel.size⟩; have HS10 := Lib.hid (HSF.out.step h10 s10); have HV10 := Lib.hid hv10; have HST := Lib.hid s10; clear h10 s10 f10 hv10
 go_wp2_with (first
  | (with_reducible show wpList _ _ _ (⟨some 49, _, _, _, _, _⟩ :: _) _ _
     refine wpList_imap_made rfl _ rfl ?_; generalize w9.alloc (.map #[] 0) = w10 at *; obtain ⟨mb, hmb⟩ : ∃ x, x = w9.heap.size := ⟨_, rfl⟩; have HMB := Lib.hid hmb.symm; rw [← hmb] at HV10 ⊢; clear hmb; obtain ⟨x0, x1, x2, x3⟩ := row4 HS10.out.hr.2)
  | fail)
 have hI0 : Inv (⟨2000, [], []⟩ : Sto) := Inv.new 2000 (by decide) (by decide); have hmp : MayPut (⟨2000, [], []⟩ : Sto) [] head := may_put0 HCK.out.2.2.2.2.1 (by have := HZ1.out; simp; omega); obtain ⟨q1, q2, -⟩ := hmp.eq; rw [put_base'] at q2; have hput := law_PutM HS10.out.law hI0 HV10.out (by simp) HS10.out.hi (fun b hb => hb.1) (by have := HZ1.out; omega); have hso := self_ok (head := head) (body := body) HCK.out.2.2.1 HCK.out.2.2.2.1 HCK.out.2.1 (by have := HZ1.out; have := HZ2.out; omega) ⟨#[58, 45]⟩; rw [← HCK.out.2.2.2.2.2] at hso; obtain ⟨S1, hS1⟩ : ∃ x, x = putS (⟨2000, [], []⟩ : Sto) [] head := ⟨_, rfl⟩; rw [q1, q2, ← hS1] at hput; rw [← hS1] at hso; have hI1 : Inv S1 := by rw [hS1]; exact hI0.put hmp
 have hl1 : 0 < S1.cells.length := by rw [hS1, putS_len]; have := put_some (⟨2000, [], []⟩ : Sto) head; omega
 have HI1 := Lib.hid (And.intro hI1 hl1); have HSO := Lib.hid hso; have HPUT := Lib.hid hput; clear hI0 hmp q1 q2 hput hso hI1 hl1 hS1
 go_wp2_with fail
 refine HPUT.out.mono ?_; rintro e11 w11 ⟨rfl, D11, l11, hv11, hz11, hk11⟩
 have hst : Step D9 w9 D11 w11 := ⟨Nat.le_trans HST.out.size hz11, fun b hb => by
  have h1 := HST.out.blk b hb; have h2 := hk11 b h1.1 (by rw [← HMB.out]; have := hb.2; omega); exact ⟨h2.1, h2.2.trans h1.2⟩⟩
 have HS := Lib.hid (HSF.out.step l11 hst); clear l11 hv11 hz11 hk11 hst HSF HS10 HV10 HST HPUT HMB x0 x1 x2 x3; dsimp only; rw [show (((([] : List SCell).length : Nat)) : Int) = 0 from rfl]
 go_wp2_with fail
 have hlk := law_Look HS.out.law HI1.out.1 0 HI1.out.2; obtain ⟨SH, hSH⟩ : ∃ x, x = shellC (fol S1 0) (cellF S1 0) := ⟨_, rfl⟩; obtain ⟨AR, hAR⟩ : ∃ x, x = (cellF S1 0).args := ⟨_, rfl⟩; rw [← hSH, ← hAR] at hlk; have HAR := Lib.hid hAR; clear hSH hAR; refine hlk.mono ?_; rintro e12 w12 ⟨v12, rfl, l12, s12, i12⟩; clear hlk; obtain ⟨ia, ic, rfl⟩ := i12.form; unfold aggS; have hb13 := below_new w12 (.cells #[.int .i64 SH.k, .int .i64 SH.n, .string SH.s, .slice none 0 0] 49 (0, 0)); obtain ⟨l13, s13, -⟩ := l12.below hb13; have HS13 := Lib.hid ((HS.out.step l12 s12).step l13 s13); have HA13 := Lib.hid (i12.move (fun b hb _ => (s13.blk b hb).1) fun b hb _ => (s13.blk b hb).2); clear l12 s12 i12 hb13 l13 s13 HS
 go_upto_region 15 with fail
 generalize w12.alloc (.cells #[.int .i64 SH.k, .int .i64 SH.n, .string SH.s, .slice none 0 0] 49 (0, 0)) = w13 at *; obtain ⟨k0, k1, k2, k3, k4⟩ := row5 HS13.out.cx.row.2; have hso := HSO.out; have hsl := HCO.out.slots.2; have hsn : C.slots.toNat = cs := by omega
 rw [hsn, ← HAR.out] at hso
 have har : areB S1 AR false = true := by
  obtain ⟨hl, e, -⟩ := HI1.out.1.root HI1.out.2; unfold areB; rw [List.all_eq_true]; intro x hx; rw [HAR.out, ← e] at hx; have := (HI1.out.1.cell _ _ (List.getElem?_eq_getElem hl)).args x hx
  simp [this.1, this.2]
 have hm := ex_Match HS13.out.law HI1.out.1 C _ HS13.out.cx.ins HS13.out.cx.blk HCK.out.1 AR _ HA13.out (by rw [HAR.out]; exact hso.alen) har HCO.out.slots.1 HCO.out.slots.2; obtain ⟨R, hR⟩ : ∃ x, x = matX (patX C.l C.l.length) AR 0 S1 (List.replicate cs (-1)) 20000 := ⟨_, rfl⟩; rw [← hR] at hm hso
 have hm2 : Calls Try.prog 10 #[.pointer (some ⟨p, 0, none⟩), .agg #[.string C.name, .int .i64 C.args, .int .i64 C.slots, .int .i64 C.body, .slice ma C.l.length mc], .slice ia AR.length ic] w13 (fun e w' => ∃ sa sc D', e = .returned (.tuple #[.slice sa R.sl.length sc, .bool true, .int .i64 0]) ∧ Law8 w p R.S D' w' ∧ Step D11 w13 D' w' ∧ IntSl w' (Free D' w') (.slice sa R.sl.length sc) R.sl) := hm.mono fun e w' h => by
  obtain ⟨v, D', h1, h2, h3, h4⟩ := h; rw [hso.ok.1, hso.ok.2] at h1; rw [hso.ok.1] at h2 h4; rw [if_pos rfl] at h2 h4; obtain ⟨sa, sc, rfl⟩ := h4.form; exact ⟨sa, sc, D', h1, h2, h3, h4⟩
 have HMN := Lib.hid hm2; have HSR := Lib.hid hso; clear hm hm2 hso hsl hsn har hR HSO
 go_wp2_with fail
 refine HMN.out.mono ?_; rintro e14 w14 ⟨sa, sc, D14, rfl, l14, s14, i14⟩; have HS14 := Lib.hid (HS13.out.step l14 s14); have HA14 := Lib.hid i14; clear l14 s14 i14 HS13 HA13 HMN k0 k1 k2 k3 k4; obtain ⟨k0, k1, k2, k3, k4⟩ := row5 HS14.out.cx.row.2; have hso := HSR.out; have hbd := ex_Build HS14.out.law hso.inv C _ HS14.out.cx.ins HS14.out.cx.blk HCK.out.1 R.sl _ HA14.out hso.len hso.are HCO.out.slots.1 HCO.out.slots.2; change Calls _ _ _ _ (BdPost w p (rndB C R) _ _ _) at hbd; obtain ⟨B, hB⟩ : ∃ x, x = rndB C R := ⟨_, rfl⟩; rw [← hB] at hbd hso; obtain ⟨nb, hnb⟩ : ∃ nb : Nat, B.cell = (nb : Int) := ⟨_, (Int.toNat_of_nonneg hso.err.2.1).symm⟩
 have hbd2 : Calls Try.prog 13 #[.pointer (some ⟨p, 0, none⟩), .agg #[.string C.name, .int .i64 C.args, .int .i64 C.slots, .int .i64 C.body, .slice ma C.l.length mc], .slice sa R.sl.length sc] w14 (fun e w' => ∃ D', e = .returned (.tuple #[.int .i64 (nb : Int), .int .i64 0]) ∧ Law8 w p B.S D' w' ∧ Step D14 w14 D' w') := hbd.mono fun e w' h => by
  unfold BdPost at h; rw [hso.err.1, if_pos rfl, if_pos rfl, hnb] at h; obtain ⟨h1, D', h2, h3⟩ := h; exact ⟨D', h1, h2, h3⟩
 have h1 := hso.err.2.2; have h2 := hso.get; have h3 := hso.num; have h4 := hso.size; rw [hnb] at h1 h2 h3; rw [Int.toNat_natCast] at h2 h3; have HBD := Lib.hid hbd2; have HU := Lib.hid (And.intro hso.inv' (And.intro h1 (And.intro h2 (And.intro h3 h4)))); clear hbd hbd2 hso hnb hB h1 h2 h3 h4 HSR; dsimp only
 go_wp2_with fail
 refine HBD.out.mono ?_; rintro e15 w15 ⟨D15, rfl, l15, s15⟩; have HS15 := Lib.hid (HS14.out.step l15 s15); clear l15 s15 HS14 HA14 HBD k0 k1 k2 k3 k4; obtain ⟨U, hU⟩ : ∃ x, x = B.S := ⟨_, rfl⟩; rw [← hU] at HS15 HU; clear hU; obtain ⟨TX, hTX⟩ : ∃ t, t = getT U 0 := ⟨_, rfl⟩; obtain ⟨TY, hTY⟩ : ∃ t, t = getT U nb := ⟨_, rfl⟩; have hci := HU.out.1; have h1 := HU.out.2.1; have h5 := HU.out.2.2.2.2; have h6 := HI1.out.2; have h3 := HU.out.2.2.2.1; rw [← hTX, ← hTY] at h3; have hge1 := law_GetE HS15.out.law hci 0 (by omega); rw [← hTX, HU.out.2.2.1.1] at hge1; have hge2 := fun (w1 : World) (D : Nat → Prop) (wr : World) (h : Law8 w1 p U D wr) => law_GetE h hci nb (by omega)
 rw [← hTY, HU.out.2.2.1.2] at hge2; have hz1 : TX.size ≤ 20000 := by rw [hTX]; exact getT_size _ _
 have hz2 : TY.size ≤ 20000 := by rw [hTY]; exact getT_size _ _
 have HG1 := Lib.hid hge1; have HG2 := Lib.hid hge2; have HNM := Lib.hid h3
 have HSZ : Hid ((compT ⟨#[58, 45]⟩ [TX, TY]).size ≤ 1000000000 ∧ (compT ⟨#[58, 45]⟩ [head, body]).size ≤ 1000000000) := Lib.hid (by
  have := HZ1.out; have := HZ2.out; simp only [compT, Tm.size, sizeL]; omega)
 clear hTX hTY hci h1 h3 h5 h6 hge1 hge2 hz1 hz2 HU HI1; dsimp only
 go_wp2_with fail
 refine HG1.out.mono ?_; rintro e16 w16 ⟨qx, cx, he16, l16, s16, i16⟩; obtain rfl : e16 = .returned (.tuple #[.agg #[.int .i64 TX.k, .int .i64 TX.n, .string TX.s, .slice qx TX.args.length cx], .int .i64 0]) := he16; have hbA := below_new w16 (.cells #[.int .i64 TX.k, .int .i64 TX.n, .string TX.s, .slice qx TX.args.length cx] 49 (0, 0)); have hrA := heap_alloc_new w16 (.cells #[.int .i64 TX.k, .int .i64 TX.n, .string TX.s, .slice qx TX.args.length cx] 49 (0, 0)); obtain ⟨l17, s17, f17⟩ := l16.below hbA; have HS17 := Lib.hid ((HS15.out.step l16 s16).step l17 s17); have HX17 := Lib.hid ((i16.imp (P' := Free D15 w16) (fun b hb => hb.1) fun _ _ _ => rfl).imp (P' := Free D15 (w16.alloc (.cells #[.int .i64 TX.k, .int .i64 TX.n, .string TX.s, .slice qx TX.args.length cx] 49 (0, 0)))) (fun b hb => (s17.blk b hb).1) fun b hb _ => (s17.blk b hb).2); have RX17 := Lib.hid (show RowF D15 (w16.alloc (.cells #[.int .i64 TX.k, .int .i64 TX.n, .string TX.s, .slice qx TX.args.length cx] 49 (0, 0))) w16.heap.size (.cells #[.int .i64 TX.k, .int .i64 TX.n, .string TX.s, .slice qx TX.args.length cx] 49 (0, 0)) from ⟨f17 _ (Nat.le_refl _) (by simp), hrA⟩); clear l16 s16 i16 hbA hrA l17 s17 f17 HS15 HG1; dsimp only
 go_upto_region 20 with fail
 generalize w16.alloc (.cells #[.int .i64 TX.k, .int .i64 TX.n, .string TX.s, .slice qx TX.args.length cx] 49 (0, 0)) = w17 at *; generalize w16.heap.size = bx at *
 go_wp2_with fail
 refine (HG2.out _ _ _ HS17.out.law).mono ?_; rintro e18 w18 ⟨qy, cy, he18, l18, s18, i18⟩; obtain rfl : e18 = .returned (.tuple #[.agg #[.int .i64 TY.k, .int .i64 TY.n, .string TY.s, .slice qy TY.args.length cy], .int .i64 0]) := he18; have hbA := below_new w18 (.cells #[.int .i64 TY.k, .int .i64 TY.n, .string TY.s, .slice qy TY.args.length cy] 49 (0, 0)); have hrA := heap_alloc_new w18 (.cells #[.int .i64 TY.k, .int .i64 TY.n, .string TY.s, .slice qy TY.args.length cy] 49 (0, 0)); obtain ⟨l19, s19, f19⟩ := l18.below hbA; have s1819 := s18.trans s19; have HS19 := Lib.hid (HS17.out.step l19 s1819); have HX19 := Lib.hid (HX17.out.imp (P' := AnyB) (fun _ _ => trivial) fun b hb _ => (s1819.blk b hb).2); have RX19 := Lib.hid (RX17.out.step s1819); have HY19 := Lib.hid ((i18.imp (P' := Free D15 w18) (fun b hb => hb.1) fun _ _ _ => rfl).imp (P' := AnyB) (fun _ _ => trivial) fun b hb _ => (s19.blk b hb).2); clear l18 s18 i18 hbA l19 s19 f19 s1819 HS17 HG2 HX17 RX17; have HRY := Lib.hid hrA; clear hrA; dsimp only
 go_upto_region 21 with fail
 generalize w18.alloc (.cells #[.int .i64 TY.k, .int .i64 TY.n, .string TY.s, .slice qy TY.args.length cy] 49 (0, 0)) = w19 at *; generalize w18.heap.size = by_ at *
 go_upto_region 23 with fail
 refine wp_region_rest (by kernel_rfl) ?_; have hd := (Below.refl w19.heap.size w19).drew; have HBE := Lib.hid (HS19.out.law.bel.trans (hd.mono HS19.out.law.bel.size)); have IX := Lib.hid (HX19.out.below hd); have IY := Lib.hid (HY19.out.below hd); have IH := Lib.hid ((HS19.out.hi.imp (P' := AnyB) (fun _ _ => trivial) fun _ _ _ => rfl).below hd); have IB := Lib.hid ((HS19.out.bi.imp (P' := AnyB) (fun _ _ => trivial) fun _ _ _ => rfl).below hd); have rX := row_on RX19.out.2 hd; have rY := row_on HRY.out hd; have rH := row_on HS19.out.hr.2 hd; have rB := row_on HS19.out.br.2 hd; clear hd HS19 HX19 RX19 HY19 HRY; generalize w19.drew = W0 at *; have lX := (Array.getElem?_eq_some_iff.1 rX).1; have lY := (Array.getElem?_eq_some_iff.1 rY).1; have lH := (Array.getElem?_eq_some_iff.1 rH).1; have lB := (Array.getElem?_eq_some_iff.1 rB).1; obtain ⟨x0, x1, x2, x3⟩ := row4 rX; obtain ⟨y0, y1, y2, y3⟩ := row4 rY; obtain ⟨h0, h1, h2, h3⟩ := row4 rH; obtain ⟨b0, b1, b2, b3⟩ := row4 rB; clear rX rY rH rB; refine rest_chainP (fun u => Below W0.heap.size W0 u) 0 11 (.soft 0 (.soft 1 (.soft 5 (.soft 6 (.two 2 7 (.two 3 7 (.two 4 7 (.one 7 (.one 8 (.one 9 (.one 10 .nil)))) (.one 4 (.one 8 (.one 9 (.one 10 .nil))))) (.one 3 (.one 4 (.one 8 (.one 9 (.one 10 .nil)))))) (.one 2 (.one 3 (.one 4 (.one 8 (.one 9 (.one 10 .nil))))))))))) (.soft _ (.soft _ (.soft _ (.soft _ (.two _ _ (.two _ _ (.two _ _ (.one _ (.one _ (.one _ (.one _ .nil)))) (.one _ (.one _ (.one _ (.one _ .nil))))) (.one _ (.one _ (.one _ (.one _ (.one _ .nil)))))) (.one _ (.one _ (.one _ (.one _ (.one _ (.one _ .nil))))))))))) ⟨rfl, ⟨rfl, ⟨rfl, ⟨rfl, ⟨rfl, rfl, ⟨rfl, rfl, ⟨rfl, rfl, ⟨rfl, ⟨rfl, ⟨rfl, ⟨rfl, trivial⟩⟩⟩⟩, ⟨rfl, ⟨rfl, ⟨rfl, ⟨rfl, trivial⟩⟩⟩⟩⟩, ⟨rfl, ⟨rfl, ⟨rfl, ⟨rfl, ⟨rfl, trivial⟩⟩⟩⟩⟩⟩, ⟨rfl, ⟨rfl, ⟨rfl, ⟨rfl, ⟨rfl, ⟨rfl, trivial⟩⟩⟩⟩⟩⟩⟩⟩⟩⟩⟩ (by kernel_rfl) (by kernel_rfl) (by kernel_rfl) (by kernel_rfl) (.inr (by kernel_rfl)) (Below.refl _ _) ?_; have hb0 := Below.refl W0.heap.size W0; refine cV (.agg #[.int .i64 TX.k, .int .i64 TX.n, .string TX.s, .slice qx TX.args.length cx]) ?_ ?_
 ·simp only [Act.put, zA, zB, zC, zD, zE, zF, zG, Nat.reduceAdd]
  intro u hu E hE; have z0 := (hu.cell (p := ⟨bx, 0, none⟩) lX).trans x0; have z1 := (hu.cell (p := ⟨bx, 1, none⟩) lX).trans x1; have z2 := (hu.cell (p := ⟨bx, 2, none⟩) lX).trans x2; have z3 := (hu.cell (p := ⟨bx, 3, none⟩) lX).trans x3; go_wp2; exact hE
 simp only [Act.put, zA, zB, zC, zD, zE, zF, zG, Nat.reduceAdd]; refine cV (.agg #[.int .i64 TY.k, .int .i64 TY.n, .string TY.s, .slice qy TY.args.length cy]) ?_ ?_
 ·simp only [Act.put, zA, zB, zC, zD, zE, zF, zG, Nat.reduceAdd]
  intro u hu E hE; have z0 := (hu.cell (p := ⟨by_, 0, none⟩) lY).trans y0; have z1 := (hu.cell (p := ⟨by_, 1, none⟩) lY).trans y1; have z2 := (hu.cell (p := ⟨by_, 2, none⟩) lY).trans y2; have z3 := (hu.cell (p := ⟨by_, 3, none⟩) lY).trans y3; go_wp2; exact hE
 simp only [Act.put, zA, zB, zC, zD, zE, zF, zG, Nat.reduceAdd]; refine cV (.agg #[.int .i64 head.k, .int .i64 head.n, .string head.s, .slice a1 head.args.length c1]) ?_ ?_
 ·simp only [Act.put, zA, zB, zC, zD, zE, zF, zG, Nat.reduceAdd]
  intro u hu E hE; have z0 := (hu.cell (p := ⟨bh, 0, none⟩) lH).trans h0; have z1 := (hu.cell (p := ⟨bh, 1, none⟩) lH).trans h1; have z2 := (hu.cell (p := ⟨bh, 2, none⟩) lH).trans h2; have z3 := (hu.cell (p := ⟨bh, 3, none⟩) lH).trans h3; go_wp2; exact hE
 simp only [Act.put, zA, zB, zC, zD, zE, zF, zG, Nat.reduceAdd]; refine cV (.agg #[.int .i64 body.k, .int .i64 body.n, .string body.s, .slice a2 body.args.length c2]) ?_ ?_
 ·simp only [Act.put, zA, zB, zC, zD, zE, zF, zG, Nat.reduceAdd]
  intro u hu E hE; have z0 := (hu.cell (p := ⟨bb, 0, none⟩) lB).trans b0; have z1 := (hu.cell (p := ⟨bb, 1, none⟩) lB).trans b1; have z2 := (hu.cell (p := ⟨bb, 2, none⟩) lB).trans b2; have z3 := (hu.cell (p := ⟨bb, 3, none⟩) lB).trans b3; go_wp2; exact hE
 simp only [Act.put, zA, zB, zC, zD, zE, zF, zG, Nat.reduceAdd]; refine chainP_two ?_ ?_
 ·intro E hE
  go_wp2; have hrA : IsSl (W0.alloc (.cells #[.int .i64 TX.k, .int .i64 TX.n, .string TX.s, .slice qx TX.args.length cx, .int .i64 TY.k, .int .i64 TY.n, .string TY.s, .slice qy TY.args.length cy] 49 (0, 0))) AnyB (.slice (some ⟨W0.heap.size, 0, none⟩) 2 2) [TX, TY] := row2 (x := TX) (y := TY) (IX.out.below hb0) (IY.out.below hb0); have hbn := (Below.refl W0.heap.size W0).alloc (Nat.le_refl _) (.cells #[.int .i64 TX.k, .int .i64 TX.n, .string TX.s, .slice qx TX.args.length cx, .int .i64 TY.k, .int .i64 TY.n, .string TY.s, .slice qy TY.args.length cy] 49 (0, 0)); have hx1 := hb0.trans (hbn.mono hb0.size); clear hbn; refine ⟨hx1, ?_⟩; generalize hGx1 : W0.alloc (.cells #[.int .i64 TX.k, .int .i64 TX.n, .string TX.s, .slice qx TX.args.length cx, .int .i64 TY.k, .int .i64 TY.n, .string TY.s, .slice qy TY.args.length cy] 49 (0, 0)) = x1 at *; clear hGx1; refine chainP_two ?_ ?_
  ·intro E hE
   go_wp2_with (refine (l21_f _ _ _ _ _).mono ?_; rintro e x2 ⟨rfl, hbn⟩)
   have hcA := comp_is (s := ⟨#[58, 45]⟩) (l := [TX, TY]) (hrA.below hbn); clear hrA; have hx2 := hx1.trans (hbn.mono hx1.size); clear hbn; refine ⟨hx2, ?_⟩; refine chainP_two ?_ ?_
   ·intro E hE
    go_wp2_with (refine (tm_Number (compT ⟨#[58, 45]⟩ [TX, TY]) _ _ _ HSZ.out.1 hcA).mono ?_; rintro e x3 ⟨vA, rfl, hnA, hbn⟩)
    clear hcA; have hx3 := hx2.trans (hbn.mono hx2.size); clear hbn; refine ⟨hx3, ?_⟩; refine chainP_one ?_; intro E hE; go_wp2; have hrB : IsSl (x3.alloc (.cells #[.int .i64 head.k, .int .i64 head.n, .string head.s, .slice a1 head.args.length c1, .int .i64 body.k, .int .i64 body.n, .string body.s, .slice a2 body.args.length c2] 49 (0, 0))) AnyB (.slice (some ⟨x3.heap.size, 0, none⟩) 2 2) [head, body] := row2 (x := head) (y := body) (IH.out.below hx3) (IB.out.below hx3); have hbn := (Below.refl x3.heap.size x3).alloc (Nat.le_refl _) (.cells #[.int .i64 head.k, .int .i64 head.n, .string head.s, .slice a1 head.args.length c1, .int .i64 body.k, .int .i64 body.n, .string body.s, .slice a2 body.args.length c2] 49 (0, 0)); replace hnA := hnA.below hbn; have hx4 := hx3.trans (hbn.mono hx3.size); clear hbn; refine ⟨hx4, ?_⟩; generalize hGx4 : x3.alloc (.cells #[.int .i64 head.k, .int .i64 head.n, .string head.s, .slice a1 head.args.length c1, .int .i64 body.k, .int .i64 body.n, .string body.s, .slice a2 body.args.length c2] 49 (0, 0)) = x4 at *; clear hGx4; refine chainP_one ?_; intro E hE
    go_wp2_with (refine (l21_f _ _ _ _ _).mono ?_; rintro e x5 ⟨rfl, hbn⟩)
    have hcB := comp_is (s := ⟨#[58, 45]⟩) (l := [head, body]) (hrB.below hbn); clear hrB; replace hnA := hnA.below hbn; have hx5 := hx4.trans (hbn.mono hx4.size); clear hbn; refine ⟨hx5, ?_⟩; refine chainP_one ?_; intro E hE
    go_wp2_with (refine (tm_Number (compT ⟨#[58, 45]⟩ [head, body]) _ _ _ HSZ.out.2 hcB).mono ?_; rintro e x6 ⟨vB, rfl, hnB, hbn⟩)
    clear hcB; replace hnA := hnA.below hbn; have hx6 := hx5.trans (hbn.mono hx5.size); clear hbn; refine ⟨hx6, ?_⟩; refine chainP_one ?_; intro E hE
    go_wp2_with fail
    refine (Tms.ref_same _ (numT (compT ⟨#[58, 45]⟩ [TX, TY])) (numT (compT ⟨#[58, 45]⟩ [head, body])) _ _ _ _ _ (Nat.le_refl _) (by rw [numT_size]; exact HSZ.out.1) hnA hnB).mono ?_; rintro e x7 ⟨rfl, hbn⟩; rw [HNM.out, sameT_refl]; clear hnA hnB; go_wp2; have hx7 := hx6.trans (hbn.mono hx6.size); clear hbn; refine ⟨hx7, ?_⟩; refine chainP_nil ?_; refine rest_lineL 11 12 [_] rfl (by kernel_rfl) (by decide) (by decide) (by kernel_rfl) ?_; go_wp2; refine then_rest (rest_end (by decide) ?_); go_wp2; go_ret; exact says rfl (HBE.out.trans (hx7.mono HBE.out.size))
   ·intro E hE
    go_wp2; have hrB : IsSl (x2.alloc (.cells #[.int .i64 head.k, .int .i64 head.n, .string head.s, .slice a1 head.args.length c1, .int .i64 body.k, .int .i64 body.n, .string body.s, .slice a2 body.args.length c2] 49 (0, 0))) AnyB (.slice (some ⟨x2.heap.size, 0, none⟩) 2 2) [head, body] := row2 (x := head) (y := body) (IH.out.below hx2) (IB.out.below hx2); have hbn := (Below.refl x2.heap.size x2).alloc (Nat.le_refl _) (.cells #[.int .i64 head.k, .int .i64 head.n, .string head.s, .slice a1 head.args.length c1, .int .i64 body.k, .int .i64 body.n, .string body.s, .slice a2 body.args.length c2] 49 (0, 0)); replace hcA := hcA.below hbn; have hx3 := hx2.trans (hbn.mono hx2.size); clear hbn; refine ⟨hx3, ?_⟩; generalize hGx3 : x2.alloc (.cells #[.int .i64 head.k, .int .i64 head.n, .string head.s, .slice a1 head.args.length c1, .int .i64 body.k, .int .i64 body.n, .string body.s, .slice a2 body.args.length c2] 49 (0, 0)) = x3 at *; clear hGx3; refine chainP_one ?_; intro E hE
    go_wp2_with (refine (tm_Number (compT ⟨#[58, 45]⟩ [TX, TY]) _ _ _ HSZ.out.1 hcA).mono ?_; rintro e x4 ⟨vA, rfl, hnA, hbn⟩)
    clear hcA; replace hrB := hrB.below hbn; have hx4 := hx3.trans (hbn.mono hx3.size); clear hbn; refine ⟨hx4, ?_⟩; refine chainP_one ?_; intro E hE
    go_wp2_with (refine (l21_f _ _ _ _ _).mono ?_; rintro e x5 ⟨rfl, hbn⟩)
    have hcB := comp_is (s := ⟨#[58, 45]⟩) (l := [head, body]) (hrB.below hbn); clear hrB; replace hnA := hnA.below hbn; have hx5 := hx4.trans (hbn.mono hx4.size); clear hbn; refine ⟨hx5, ?_⟩; refine chainP_one ?_; intro E hE
    go_wp2_with (refine (tm_Number (compT ⟨#[58, 45]⟩ [head, body]) _ _ _ HSZ.out.2 hcB).mono ?_; rintro e x6 ⟨vB, rfl, hnB, hbn⟩)
    clear hcB; replace hnA := hnA.below hbn; have hx6 := hx5.trans (hbn.mono hx5.size); clear hbn; refine ⟨hx6, ?_⟩; refine chainP_one ?_; intro E hE
    go_wp2_with fail
    refine (Tms.ref_same _ (numT (compT ⟨#[58, 45]⟩ [TX, TY])) (numT (compT ⟨#[58, 45]⟩ [head, body])) _ _ _ _ _ (Nat.le_refl _) (by rw [numT_size]; exact HSZ.out.1) hnA hnB).mono ?_; rintro e x7 ⟨rfl, hbn⟩; rw [HNM.out, sameT_refl]; clear hnA hnB; go_wp2; have hx7 := hx6.trans (hbn.mono hx6.size); clear hbn; refine ⟨hx7, ?_⟩; refine chainP_nil ?_; refine rest_lineL 11 12 [_] rfl (by kernel_rfl) (by decide) (by decide) (by kernel_rfl) ?_; go_wp2; refine then_rest (rest_end (by decide) ?_); go_wp2; go_ret; exact says rfl (HBE.out.trans (hx7.mono HBE.out.size))
  ·intro E hE
   go_wp2; have hrB : IsSl (x1.alloc (.cells #[.int .i64 head.k, .int .i64 head.n, .string head.s, .slice a1 head.args.length c1, .int .i64 body.k, .int .i64 body.n, .string body.s, .slice a2 body.args.length c2] 49 (0, 0))) AnyB (.slice (some ⟨x1.heap.size, 0, none⟩) 2 2) [head, body] := row2 (x := head) (y := body) (IH.out.below hx1) (IB.out.below hx1); have hbn := (Below.refl x1.heap.size x1).alloc (Nat.le_refl _) (.cells #[.int .i64 head.k, .int .i64 head.n, .string head.s, .slice a1 head.args.length c1, .int .i64 body.k, .int .i64 body.n, .string body.s, .slice a2 body.args.length c2] 49 (0, 0)); replace hrA := hrA.below hbn; have hx2 := hx1.trans (hbn.mono hx1.size); clear hbn; refine ⟨hx2, ?_⟩; generalize hGx2 : x1.alloc (.cells #[.int .i64 head.k, .int .i64 head.n, .string head.s, .slice a1 head.args.length c1, .int .i64 body.k, .int .i64 body.n, .string body.s, .slice a2 body.args.length c2] 49 (0, 0)) = x2 at *; clear hGx2; refine chainP_one ?_; intro E hE
   go_wp2_with (refine (l21_f _ _ _ _ _).mono ?_; rintro e x3 ⟨rfl, hbn⟩)
   have hcA := comp_is (s := ⟨#[58, 45]⟩) (l := [TX, TY]) (hrA.below hbn); clear hrA; replace hrB := hrB.below hbn; have hx3 := hx2.trans (hbn.mono hx2.size); clear hbn; refine ⟨hx3, ?_⟩; refine chainP_one ?_; intro E hE
   go_wp2_with (refine (tm_Number (compT ⟨#[58, 45]⟩ [TX, TY]) _ _ _ HSZ.out.1 hcA).mono ?_; rintro e x4 ⟨vA, rfl, hnA, hbn⟩)
   clear hcA; replace hrB := hrB.below hbn; have hx4 := hx3.trans (hbn.mono hx3.size); clear hbn; refine ⟨hx4, ?_⟩; refine chainP_one ?_; intro E hE
   go_wp2_with (refine (l21_f _ _ _ _ _).mono ?_; rintro e x5 ⟨rfl, hbn⟩)
   have hcB := comp_is (s := ⟨#[58, 45]⟩) (l := [head, body]) (hrB.below hbn); clear hrB; replace hnA := hnA.below hbn; have hx5 := hx4.trans (hbn.mono hx4.size); clear hbn; refine ⟨hx5, ?_⟩; refine chainP_one ?_; intro E hE
   go_wp2_with (refine (tm_Number (compT ⟨#[58, 45]⟩ [head, body]) _ _ _ HSZ.out.2 hcB).mono ?_; rintro e x6 ⟨vB, rfl, hnB, hbn⟩)
   clear hcB; replace hnA := hnA.below hbn; have hx6 := hx5.trans (hbn.mono hx5.size); clear hbn; refine ⟨hx6, ?_⟩; refine chainP_one ?_; intro E hE
   go_wp2_with fail
   refine (Tms.ref_same _ (numT (compT ⟨#[58, 45]⟩ [TX, TY])) (numT (compT ⟨#[58, 45]⟩ [head, body])) _ _ _ _ _ (Nat.le_refl _) (by rw [numT_size]; exact HSZ.out.1) hnA hnB).mono ?_; rintro e x7 ⟨rfl, hbn⟩; rw [HNM.out, sameT_refl]; clear hnA hnB; go_wp2; have hx7 := hx6.trans (hbn.mono hx6.size); clear hbn; refine ⟨hx7, ?_⟩; refine chainP_nil ?_; refine rest_lineL 11 12 [_] rfl (by kernel_rfl) (by decide) (by decide) (by kernel_rfl) ?_; go_wp2; refine then_rest (rest_end (by decide) ?_); go_wp2; go_ret; exact says rfl (HBE.out.trans (hx7.mono HBE.out.size))
 ·intro E hE
  go_wp2; have hrB : IsSl (W0.alloc (.cells #[.int .i64 head.k, .int .i64 head.n, .string head.s, .slice a1 head.args.length c1, .int .i64 body.k, .int .i64 body.n, .string body.s, .slice a2 body.args.length c2] 49 (0, 0))) AnyB (.slice (some ⟨W0.heap.size, 0, none⟩) 2 2) [head, body] := row2 (x := head) (y := body) (IH.out.below hb0) (IB.out.below hb0); have hbn := (Below.refl W0.heap.size W0).alloc (Nat.le_refl _) (.cells #[.int .i64 head.k, .int .i64 head.n, .string head.s, .slice a1 head.args.length c1, .int .i64 body.k, .int .i64 body.n, .string body.s, .slice a2 body.args.length c2] 49 (0, 0)); have hx1 := hb0.trans (hbn.mono hb0.size); clear hbn; refine ⟨hx1, ?_⟩; generalize hGx1 : W0.alloc (.cells #[.int .i64 head.k, .int .i64 head.n, .string head.s, .slice a1 head.args.length c1, .int .i64 body.k, .int .i64 body.n, .string body.s, .slice a2 body.args.length c2] 49 (0, 0)) = x1 at *; clear hGx1; refine chainP_one ?_; intro E hE; go_wp2; have hrA : IsSl (x1.alloc (.cells #[.int .i64 TX.k, .int .i64 TX.n, .string TX.s, .slice qx TX.args.length cx, .int .i64 TY.k, .int .i64 TY.n, .string TY.s, .slice qy TY.args.length cy] 49 (0, 0))) AnyB (.slice (some ⟨x1.heap.size, 0, none⟩) 2 2) [TX, TY] := row2 (x := TX) (y := TY) (IX.out.below hx1) (IY.out.below hx1); have hbn := (Below.refl x1.heap.size x1).alloc (Nat.le_refl _) (.cells #[.int .i64 TX.k, .int .i64 TX.n, .string TX.s, .slice qx TX.args.length cx, .int .i64 TY.k, .int .i64 TY.n, .string TY.s, .slice qy TY.args.length cy] 49 (0, 0)); replace hrB := hrB.below hbn; have hx2 := hx1.trans (hbn.mono hx1.size); clear hbn; refine ⟨hx2, ?_⟩; generalize hGx2 : x1.alloc (.cells #[.int .i64 TX.k, .int .i64 TX.n, .string TX.s, .slice qx TX.args.length cx, .int .i64 TY.k, .int .i64 TY.n, .string TY.s, .slice qy TY.args.length cy] 49 (0, 0)) = x2 at *; clear hGx2; refine chainP_one ?_; intro E hE
  go_wp2_with (refine (l21_f _ _ _ _ _).mono ?_; rintro e x3 ⟨rfl, hbn⟩)
  have hcA := comp_is (s := ⟨#[58, 45]⟩) (l := [TX, TY]) (hrA.below hbn); clear hrA; replace hrB := hrB.below hbn; have hx3 := hx2.trans (hbn.mono hx2.size); clear hbn; refine ⟨hx3, ?_⟩; refine chainP_one ?_; intro E hE
  go_wp2_with (refine (tm_Number (compT ⟨#[58, 45]⟩ [TX, TY]) _ _ _ HSZ.out.1 hcA).mono ?_; rintro e x4 ⟨vA, rfl, hnA, hbn⟩)
  clear hcA; replace hrB := hrB.below hbn; have hx4 := hx3.trans (hbn.mono hx3.size); clear hbn; refine ⟨hx4, ?_⟩; refine chainP_one ?_; intro E hE
  go_wp2_with (refine (l21_f _ _ _ _ _).mono ?_; rintro e x5 ⟨rfl, hbn⟩)
  have hcB := comp_is (s := ⟨#[58, 45]⟩) (l := [head, body]) (hrB.below hbn); clear hrB; replace hnA := hnA.below hbn; have hx5 := hx4.trans (hbn.mono hx4.size); clear hbn; refine ⟨hx5, ?_⟩; refine chainP_one ?_; intro E hE
  go_wp2_with (refine (tm_Number (compT ⟨#[58, 45]⟩ [head, body]) _ _ _ HSZ.out.2 hcB).mono ?_; rintro e x6 ⟨vB, rfl, hnB, hbn⟩)
  clear hcB; replace hnA := hnA.below hbn; have hx6 := hx5.trans (hbn.mono hx5.size); clear hbn; refine ⟨hx6, ?_⟩; refine chainP_one ?_; intro E hE
  go_wp2_with fail
  refine (Tms.ref_same _ (numT (compT ⟨#[58, 45]⟩ [TX, TY])) (numT (compT ⟨#[58, 45]⟩ [head, body])) _ _ _ _ _ (Nat.le_refl _) (by rw [numT_size]; exact HSZ.out.1) hnA hnB).mono ?_; rintro e x7 ⟨rfl, hbn⟩; rw [HNM.out, sameT_refl]; clear hnA hnB; go_wp2; have hx7 := hx6.trans (hbn.mono hx6.size); clear hbn; refine ⟨hx7, ?_⟩; refine chainP_nil ?_; refine rest_lineL 11 12 [_] rfl (by kernel_rfl) (by decide) (by decide) (by kernel_rfl) ?_; go_wp2; refine then_rest (rest_end (by decide) ?_); go_wp2; go_ret; exact says rfl (HBE.out.trans (hx7.mono HBE.out.size))
end Go.Proofs.Ytcbijikalfodnaa.Tms
