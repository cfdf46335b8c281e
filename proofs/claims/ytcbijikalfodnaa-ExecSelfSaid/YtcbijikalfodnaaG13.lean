/-
  Layer texts, glued and made small.
-/
import Derived.Test.YtcbijikalfodnaaG12
set_option linter.unusedVariables false
set_option linter.unusedSimpArgs false
set_option maxRecDepth 100000
set_option maxHeartbeats 16000000
namespace Go.Proofs.Ytcbijikalfodnaa.Tms
open Go Go.RowKit Go.Proofs.Ytcbijikalfodnaa.Reg Go.Proofs.Ytcbijikalfodnaa.Rws Go.Proofs.Ytcbijikalfodnaa.Maps
open Go.Proofs.Ytcbijikalfodnaa.Cod (Ins Cod sk check slotsN InsSl InsAt)
theorem wpList_imap_cap {P : Program} {w : World} {ops : Array Oper} {rest : List Oper} {o : Oper} {a : Act} {Q : Exit → Act → World → Prop} (hgd : o.guard = none) (t : TypeId) (x : Operand) (ho : o.op = .makeMap t (some x)) (kt et : TypeId) (h : P.underlying t = some (.map kt et)) (n : Int) (hx : a.eval x = .int .i64 n)
 (hK : wpList P ops Q rest (a.put o.dst (.map (some w.heap.size))) (w.alloc (.map #[] 0))) : wpList P ops Q (o :: rest) a w := by
 refine wpList_plain hgd fun K hK' => ?_
 have hrun : (Instr.makeMap t (some (.int .i64 n))).run P w = .ok (.map (some w.heap.size)) (w.alloc (.map #[] 0)) := by
  simp [Instr.makeMap, run_underlying h, asInt, asIntOf, Result.andThen]
 unfold Oper.wp
 simp [execOp, ho, hx, hrun, Result.andThen]
 exact hK' _ _ hK
theorem tmAt_var {w : World} {P P' : Nat → Prop} {g o : Nat} {n : Int} (h : TmAt w P g o (varT n)) : TmAt w P' g o (varT n) := by
 unfold varT TmAt at h ⊢; obtain ⟨a, cap, h0, h1, h2, h3, h4⟩ := h; exact ⟨a, cap, h0, h1, h2, h3, trivial⟩
theorem varsX_len (n : Nat) : (varsX n).length = n := by simp [varsX]
theorem varsX_at (n i : Nat) (h : i < (varsX n).length) : (varsX n)[i] = varT (i : Int) := by simp [varsX]
theorem varsX_snoc (n : Nat) : varsX (n + 1) = varsX n ++ [varT (n : Int)] := by simp [varsX, List.range_succ]
theorem vFill_keep {w w' : World} {g n r : Nat} (h : Fill w g n 0 (varsX r)) (hg : w'.heap[g]? = w.heap[g]?) : Fill w' g n 0 (varsX r) := by
 obtain ⟨cs, h1, h2⟩ := h.row; refine ⟨⟨cs, hg.trans h1, h2⟩, fun i hi => ?_⟩; have h3 := h.got i hi; rw [varsX_at] at h3 ⊢; exact tmAt_var (TmAt.imp' (P' := fun _ => False) (fun _ h => h) (fun b hb => hb.elim) _ _ _ (fun j _ => World.cell?_of_block (a := ⟨g, i * 4 + j, none⟩) hg) (tmAt_var (P' := fun _ => False) h3))
theorem vFill_sl {w : World} {g n : Nat} (h : Fill w g n 0 (varsX n)) : IsSl w (fun b => b = g) (.slice (some ⟨g, 0, none⟩) n n) (varsX n) := by
 have hn := varsX_len n
 have hs : IsSl w (fun b => b = g) (.slice (some ⟨g, 0, none⟩) (varsX n).length n) (varsX n) := by
  refine IsSl.mk' fun i hi => ⟨g, 0, rfl, rfl, ?_⟩
  rw [Nat.zero_add]; have h3 := h.got i hi; rw [varsX_at] at h3 ⊢; exact tmAt_var h3
 rw [hn] at hs; exact hs
theorem vFill_put {w : World} {g n r : Nat} (h : Fill w g n 0 (varsX r)) (hr : r < n) : w.there g (r * 4) 4 ∧ Fill (w.setCells g (r * 4) [.int .i64 1, .int .i64 r, .string ⟨#[]⟩, .slice none 0 0]) g n 0 (varsX (r + 1)) ∧ Keeps w (w.setCells g (r * 4) [.int .i64 1, .int .i64 r, .string ⟨#[]⟩, .slice none 0 0]) (fun b => b = g) := by
 have h1 := h.put (t := varT (r : Int)) (a := none) (c := 0) (varsX_len r) hr (var_is _ _ _); rw [← varsX_snoc] at h1; exact h1
section
variable {w0 w w' w'' : World} {p rb qb at_ k x : Nat} {S : Sto} {D D' : Nat → Prop} {lv : Value} {L : List Ins} {sl : List Int}
theorem ExAt.own (h : ExAt w0 p rb qb S D lv L at_ sl k w) (hk : Keeps w w' (fun b => b = x)) (hx : EOut rb qb D w x) (h0 : w0.heap.size ≤ x) (hn : slBlk lv ≠ some x) : ExAt w0 p rb qb S D lv L at_ sl k w' := by
 have hb := h.law.bel; refine h.other ⟨hk.os.trans hb.os, hk.tape.trans hb.tape, hk.output.trans hb.output, Nat.le_trans hb.size hk.size, fun b hlt => (hk.block b (Nat.lt_of_lt_of_le hlt hb.size) (by omega)).trans (hb.block b hlt)⟩ hk.size fun b hlt hb' => hk.block b hlt fun e => ?_
 subst e; rcases hb' with hb' | hb' | hb' | hb'
 ·exact hx.1 hb'
 ·exact hx.2.1 hb'
 ·exact hx.2.2.1 hb'
 ·exact hn hb'
theorem EStep.own (h : EStep rb qb D w D' w') (hk : Keeps w' w'' (fun b => b = x)) (hx : w.heap.size ≤ x) : EStep rb qb D w D' w'' :=
 ⟨Nat.le_trans h.size hk.size, fun b hb => ⟨⟨(h.blk b hb).1.1, hb.2.1, hb.2.2.1, Nat.lt_of_lt_of_le (h.blk b hb).1.2.2.2 hk.size⟩, (hk.block b (h.blk b hb).1.2.2.2 (by have := hb.2.2.2; omega)).trans (h.blk b hb).2⟩⟩
theorem EOut.keep {b : Nat} (h : EOut rb qb D w b) (hz : w.heap.size ≤ w'.heap.size) : EOut rb qb D w' b := ⟨h.1, h.2.1, h.2.2.1, Nat.lt_of_lt_of_le h.2.2.2 hz⟩
end
structure CpAt (w0 : World) (p rb qb k : Nat) (D : Nat → Prop) (lv : Value) (L : List Ins) (w : World) (g tb mb n : Nat) (s : ByteArray) (r : Nat) (Q : PsR) (D1 : Nat → Prop) (wr : World) : Prop where
 ex : ExAt w0 p rb qb Q.S D1 lv L Q.at_ Q.sl k wr
 st : EStep rb qb D w D1 wr
 fill : Fill wr g n 0 (varsX r)
 box : wr.heap[tb]? = some (.cells #[.int .i64 4, .int .i64 0, .string s, .slice (some ⟨g, 0, none⟩) n n] 49 (0, 0))
 map : IMapB wr mb (numM Q.cells)
 gO : EOut rb qb D1 wr g
 tO : EOut rb qb D1 wr tb
 mO : EOut rb qb D1 wr mb
 low : w0.heap.size ≤ w.heap.size ∧ w.heap.size ≤ g ∧ w.heap.size ≤ tb ∧ w.heap.size ≤ mb
 ne : g ≠ tb ∧ g ≠ mb ∧ tb ≠ mb
 lvF : ∀ b, slBlk lv = some b → b < w.heap.size
section
variable {w0 w wr w2 : World} {p rb qb k g tb mb n r : Nat} {D D1 D2 : Nat → Prop} {lv : Value} {L : List Ins} {s : ByteArray} {Q Q' : PsR}
theorem CpAt.did (h : CpAt w0 p rb qb k D lv L w g tb mb n s r Q D1 wr) (hx : ExAt w0 p rb qb Q'.S D2 lv L Q'.at_ Q'.sl k w2) (hs : EStep rb qb D1 wr D2 w2) (hc : Q'.cells = Q.cells) : CpAt w0 p rb qb k D lv L w g tb mb n s r Q' D2 w2 :=
 ⟨hx, h.st.trans hs, vFill_keep h.fill (hs.blk g h.gO).2, (hs.blk tb h.tO).2.trans h.box, by rw [hc]; exact h.map.below (hs.blk mb h.mO).2, (hs.blk g h.gO).1, (hs.blk tb h.tO).1, (hs.blk mb h.mO).1, h.low, h.ne, h.lvF⟩
theorem CpAt.below (h : CpAt w0 p rb qb k D lv L w g tb mb n s r Q D1 wr) (hb : Below wr.heap.size wr w2) : CpAt w0 p rb qb k D lv L w g tb mb n s r Q D1 w2 :=
 let ⟨h1, h2, _⟩ := h.ex.below hb
 h.did h1 h2 rfl
theorem CpAt.fillPut (h : CpAt w0 p rb qb k D lv L w g tb mb n s r Q D1 wr) (hr : r < n) : wr.there g (r * 4) 4 ∧ CpAt w0 p rb qb k D lv L w g tb mb n s (r + 1) Q D1 (wr.setCells g (r * 4) [.int .i64 1, .int .i64 r, .string ⟨#[]⟩, .slice none 0 0]) := by
 obtain ⟨h1, h2, h3⟩ := vFill_put h.fill hr; have hlv : slBlk lv ≠ some g := fun e => by have := h.lvF g e; have := h.low; omega
 exact ⟨h1, h.ex.own h3 h.gO (Nat.le_trans h.low.1 h.low.2.1) hlv, h.st.own h3 h.low.2.1, h2, (h3.block tb h.tO.2.2.2 (fun e => h.ne.1 e.symm)).trans h.box, h.map.below (h3.block mb h.mO.2.2.2 (fun e => h.ne.2.1 e.symm)), h.gO.keep h3.size, h.tO.keep h3.size, h.mO.keep h3.size, h.low, h.ne, h.lvF⟩
theorem CpAt.mapPut (h : CpAt w0 p rb qb k D lv L w g tb mb n s r Q D1 wr) {cs : List Int} (hg : wr.grownBy w2 (some mb)) (hm : IMapB w2 mb (numM cs)) : CpAt w0 p rb qb k D lv L w g tb mb n s r ⟨cs, Q.err, Q.at_, Q.S, Q.sl⟩ D1 w2 := by
 have h3 : Keeps wr w2 (fun b => b = mb) := Keeps.grown hg fun b e => .inl (by cases e; rfl)
 have hlv : slBlk lv ≠ some mb := fun e => by have := h.lvF mb e; have := h.low; omega
 exact ⟨h.ex.own h3 h.mO (Nat.le_trans h.low.1 h.low.2.2.2) hlv, h.st.own h3 h.low.2.2.2, vFill_keep h.fill (h3.block g h.gO.2.2.2 h.ne.2.1), (h3.block tb h.tO.2.2.2 h.ne.2.2).trans h.box, hm, h.gO.keep h3.size, h.tO.keep h3.size, h.mO.keep h3.size, h.low, h.ne, h.lvF⟩
end
theorem numM_snoc (l : List Int) (x : Int) : numM (l ++ [x]) = mset (l.length : Int) x (numM l) := by
 have hk : mget (numM l) (l.length : Int) = none := by
  rw [mget_none]; intro q hq; unfold numM at hq; obtain ⟨⟨y, j⟩, hq2, rfl⟩ := List.mem_map.1 hq; have := List.snd_lt_of_mem_zipIdx hq2
  simp at this ⊢
  omega
 rw [mset_new hk]
 simp [numM, List.zipIdx_append]
theorem CpAt.put {w0 w wr w2 : World} {p rb qb k g tb mb n r : Nat} {D D1 D2 : Nat → Prop} {lv : Value} {L : List Ins} {s : ByteArray} {Q : PsR} {S' : Sto} {M N' F : List (Int × Int)} (h : CpAt w0 p rb qb k D lv L w g tb mb n s r Q D1 wr) (hl : LawPut w0 p D1 mb M N' wr S' D2 F w2) : ExAt w0 p rb qb S' D2 lv L Q.at_ Q.sl k w2 ∧ EStep rb qb D w D2 w2 := by
 have hx := h.ex; have hr := hl.blk rb ⟨hx.rF.1, hx.rlt⟩ (fun e => h.mO.2.1 e.symm); have hq := hl.blk qb ⟨hx.qF.1, hx.qlt⟩ (fun e => h.mO.2.2.1 e.symm); have hlv : ∀ b, slBlk lv = some b → b ≠ mb := fun b e => by have := h.lvF b e; have := h.low; omega
 refine ⟨⟨hl.law, hr.2.trans hx.row, hx.slots.keep hq.2, insSl_keepX hx.ins fun b e => (hl.blk b (hx.iF b e).1 (hlv b e)).2, ⟨hr.1.1, hx.rF.2⟩, ⟨hq.1.1, hx.qF.2⟩, fun b e => ⟨(hl.blk b (hx.iF b e).1 (hlv b e)).1, (hx.iF b e).2⟩⟩, Nat.le_trans h.st.size hl.size, fun b hb => ?_⟩; have g1 := h.st.blk b hb; have g2 := hl.blk b ⟨g1.1.1, g1.1.2.2.2⟩ (by have := hb.2.2.2; have := h.low; omega); exact ⟨⟨g2.1.1, hb.2.1, hb.2.2.1, g2.1.2⟩, g2.2.trans g1.2⟩
theorem patsX_err {f : Nat → Sto → List Int → PtR} {a : Nat} {S : Sto} {sl : List Int} {m : Nat} (h : (patsX f m a S sl).err ≠ 0) : ∀ n, m ≤ n → patsX f n a S sl = patsX f m a S sl := by
 intro n hn
 induction n with
 | zero => obtain rfl : m = 0 := by omega
           rfl
 | succ n ih =>
   by_cases e : m = n + 1
   ·rw [e]
   ·have := ih (by omega)
    show (if (patsX f n a S sl).err ≠ 0 then patsX f n a S sl else _) = _; rw [this, if_pos h]
theorem patsX_step {f : Nat → Sto → List Int → PtR} {a : Nat} {S : Sto} {sl : List Int} {r : Nat} {Q : PsR} {R : PtR} (hQ : patsX f r a S sl = Q) (hR : f Q.at_ Q.S Q.sl = R) (h : Q.err = 0) : patsX f (r + 1) a S sl = if R.err ≠ 0 then ⟨Q.cells, R.err, R.at_, R.S, R.sl⟩ else ⟨Q.cells ++ [R.cell], 0, R.at_, R.S, R.sl⟩ := by
 show (if (patsX f r a S sl).err ≠ 0 then patsX f r a S sl else if (f (patsX f r a S sl).at_ (patsX f r a S sl).S (patsX f r a S sl).sl).err ≠ 0 then _ else _) = _; simp only [hQ, hR, h]; rw [if_neg (by simp)]
def ExRel (w0 : World) (p rb qb k : Nat) (D : Nat → Prop) (lv : Value) (L : List Ins) (w : World) (g tb mb n : Nat) (s : ByteArray) (N a q : Nat) (S : Sto) (sl : List Int) (vi : Value) (wr : World) : Prop := ∃ (r c d : Nat) (D1 : Nat → Prop), vi = .int .i64 r ∧ r ≤ n ∧ (patsX (patX L N) r a S sl).err = 0 ∧ CpAt w0 p rb qb k D lv L w g tb mb n s r (patsX (patX L N) r a S sl) D1 wr ∧ sk (L.drop a) r = some c ∧ sk (L.drop (a + c)) (n - r) = some d ∧ c + d = q
theorem ex_comp {w0 : World} {p rb qb sn k N : Nat} {lv : Value} {L : List Ins} (hok : ∀ i ∈ L, i.ok = true) (hsl : ∀ i ∈ L, i.op = 2 ∨ i.op = 3 → 0 ≤ i.a ∧ i.a < sn) (hP : PatC w0 p rb qb lv L sn k N) : CompC w0 p rb qb lv L sn k N := by
 intro i a q S sl D w h hI hs hl hm ho h1 h2 hk hq; obtain ⟨n, hn⟩ : ∃ n : Nat, i.a = (n : Int) := ⟨i.a.toNat, by omega⟩; have htn : i.a.toNat = n := by rw [hn]; simp
 have hn1 : 1 ≤ n ∧ n ≤ 255 := by omega
 rw [htn] at hk; have hps := fun r c => patsX_ok (patX_ok hok hsl N) r a c S sl
 have HPS := Lib.hid hps; have HSZ := Lib.hid (ok6X ho (hok i hm)); have HA := Lib.hid (And.intro hI (And.intro hs (And.intro hl (And.intro hk hq)))); have HN0 := Lib.hid (And.intro hn htn); have HLV := Lib.hid (fun b e => (h.iF b e).1.2 : ∀ b, slBlk lv = some b → b < w.heap.size); have HLW := Lib.hid h.law.bel.size; clear hps hI hs hl hk hq hn htn ho h1 h2 hm; have hal := (Below.refl w.heap.size w).alloc (Nat.le_refl _) (.cells #[.int .i64 i.op, .int .i64 i.a, .int .i64 i.n, .string i.s] 71 (0, 0)); have hnw := heap_alloc_new w (.cells #[.int .i64 i.op, .int .i64 i.a, .int .i64 i.n, .string i.s] 71 (0, 0)); obtain ⟨h1, s1, f1⟩ := h.below hal; have HW := Lib.hid h1; have HS := Lib.hid s1; have HN := Lib.hid hnw; clear hal hnw h1 s1 f1 h
 go_enter Try.func57, Try.ntmps57
 go_upto_region 1 with fail
 generalize w.alloc (.cells #[.int .i64 i.op, .int .i64 i.a, .int .i64 i.n, .string i.s] 71 (0, 0)) = W1 at *; generalize hgi : w.heap.size = gi at HN ⊢; refine wp_region_rest (by kernel_rfl) ?_; have hd := (Below.refl W1.heap.size W1).drew; obtain ⟨h2, s2, -⟩ := HW.out.below hd; have HW0 := Lib.hid h2; have HS0 := Lib.hid (HS.out.trans s2); have hn2 := row_on HN.out hd; clear h2 s2 hd HW HS HN; generalize W1.drew = W0 at *; have HI3 := Lib.hid hn2; have lgi := (Array.getElem?_eq_some_iff.1 hn2).1; have hgz := HS0.out.size; have HGI := Lib.hid hgi; clear hn2 hgi; obtain ⟨i0, hti, hz0, hz1, hz2⟩ := info_parts info_term; refine rest_chainP (fun u => Below W0.heap.size W0 u) 0 7 (.soft 0 (.soft 1 (.soft 2 (.soft 3 (.two 4 6 (.soft 5 (.one 6 .nil)) (.one 4 (.soft 5 .nil))))))) (.soft _ (.soft _ (.soft _ (.soft _ (.two _ _ (.soft _ (.one _ .nil)) (.one _ (.soft _ .nil))))))) ⟨rfl, ⟨rfl, ⟨rfl, ⟨rfl, ⟨rfl, rfl, ⟨rfl, ⟨rfl, trivial⟩⟩, ⟨rfl, ⟨rfl, trivial⟩⟩⟩⟩⟩⟩⟩ (by kernel_rfl) (by kernel_rfl) (by kernel_rfl) (by kernel_rfl) (.inr (by kernel_rfl)) (Below.refl _ _) ?_; refine cS (a1 := ?ma1) ?mh1 ?mr1
 case mh1 =>
  intro u hu E hE; go_wp2; rfl
 refine cS (a1 := ?ma2) ?mh2 ?mr2
 case mh2 =>
  intro u hu E hE; obtain ⟨y0, y1, y2, y3⟩ := row4 ((hu.block gi lgi).trans HI3.out); go_wp2; rfl
 refine cS (a1 := ?ma3) ?mh3 ?mr3
 case mh3 =>
  intro u hu E hE; go_wp2; rfl
 refine cS (a1 := ?ma4) ?mh4 ?mr4
 case mh4 =>
  intro u hu E hE; obtain ⟨y0, y1, y2, y3⟩ := row4 ((hu.block gi lgi).trans HI3.out); rw [HN0.out.1] at y1; go_wp2; rfl
 refine chainP_two ?_ ?_
 ·intro E hE
  refine wpList_make_full _ rfl (.tmp 14) (.tmp 14) 47 rfl W0.heap.size 49 i0 _ 4 Try.underlying47 hti hz0 hz1 .i64 .i64 _ _ n rfl rfl rfl rfl (by rw [hz2]; omega) (by unfold maxLen; omega) (Nat.le_refl _) ?_; intro wA hown hgr; obtain ⟨row, hrow, hrs⟩ := own_row hown; have hbA : Below W0.heap.size W0 wA := (Below.refl _ _).grown hgr (Nat.le_refl _) (by simp); clear hown hgr; refine hE _ _ ⟨hbA, ?_⟩; simp only [Act.put, zA, zB, zC, zD, zE, zF, zG, Nat.reduceAdd]; refine cS (a1 := ?ma5) ?mh5 ?mr5
  case mh5 =>
   intro u hu E hE; go_wp2; rfl
  refine chainP_one ?_; intro E hE; go_wp2; refine ⟨hbA.trans ((below_new _ _).mono hbA.size), ?_⟩; refine chainP_nil ?_; have hbU := below_new wA (.cells #[.int .i64 0, .int .i64 0, .string ⟨#[]⟩, .slice none 0 0] 49 (0, 0)); have hnU := heap_alloc_new wA (.cells #[.int .i64 0, .int .i64 0, .string ⟨#[]⟩, .slice none 0 0] 49 (0, 0)); have hbX := hbA.trans (hbU.mono hbA.size); obtain ⟨h4, s4, f4⟩ := HW0.out.below hbX; have hzA : W0.heap.size < wA.heap.size := (Array.getElem?_eq_some_iff.1 hrow).1; have HX4 := Lib.hid h4; have HS4 := Lib.hid (HS0.out.trans s4); have HG4 := Lib.hid ((hbX.block gi lgi).trans HI3.out); have HGR := Lib.hid ((hbU.block W0.heap.size hzA).trans hrow); have HTB := Lib.hid hnU; have HO := Lib.hid (And.intro (f4 W0.heap.size (Nat.le_refl _) (by simp; omega)) (And.intro (f4 wA.heap.size (by omega) (by simp)) trivial)); have HLO := Lib.hid (show w.heap.size ≤ W0.heap.size ∧ w.heap.size ≤ wA.heap.size ∧ W0.heap.size ≠ wA.heap.size ∧ gi ≠ wA.heap.size ∧ True from ⟨HS0.out.size, by have := HS0.out.size; omega, by omega, by omega, trivial⟩); clear hbU hnU hbA hbX hrow h4 s4 f4 hzA HW0 HS0 HI3 hE; generalize wA.alloc (.cells #[.int .i64 0, .int .i64 0, .string ⟨#[]⟩, .slice none 0 0] 49 (0, 0)) = UX at *; generalize wA.heap.size = tb at *; generalize W0.heap.size = g at *; refine rest_lineL 7 8 [_] rfl (by kernel_rfl) (by decide) (by decide) (by kernel_rfl) ?_; refine wpList_store_row rfl 49 (.tmp 6) (.tmp 16) rfl tb #[.int .i64 4, .int .i64 0, .string i.s, .slice (some ⟨g, 0, none⟩) n n] rfl rfl _ _ HTB.out size_term rfl (one4 _ _ _ _ _ _) ?_; go_wp2; refine then_rest (rest_end (by decide) ?_); have hbox := setRow_heap UX tb _ (#[.int .i64 4, .int .i64 0, .string i.s, .slice (some ⟨g, 0, none⟩) n n] : Array Value) _ _ HTB.out; have hoth : ∀ b, b ≠ tb → (UX.setRow tb #[.int .i64 4, .int .i64 0, .string i.s, .slice (some ⟨g, 0, none⟩) n n]).heap[b]? = UX.heap[b]? := fun b hb => setRow_other _ _ _ _ hb
  have hk : Keeps UX (UX.setRow tb #[.int .i64 4, .int .i64 0, .string i.s, .slice (some ⟨g, 0, none⟩) n n]) (fun b => b = tb) := ⟨rfl, rfl, rfl, by simp, fun b _ hb => hoth b hb⟩; have hx5 := HX4.out.own hk HO.out.2.1 (Nat.le_trans HLW.out HLO.out.2.1) (fun e => by have := HLV.out tb e; have := HLO.out; omega); have hs5 := HS4.out.own hk HLO.out.2.1; have hgi5 := (hoth gi HLO.out.2.2.2.1).trans HG4.out; have hrow5 := (hoth g HLO.out.2.2.1).trans HGR.out; have HO5 := Lib.hid (And.intro (HO.out.1.keep hk.size) (HO.out.2.1.keep hk.size)); clear hoth hk HX4 HS4 HG4 HO HTB HGR; generalize UX.setRow tb #[.int .i64 4, .int .i64 0, .string i.s, .slice (some ⟨g, 0, none⟩) n n] = X at *; have hbm := below_new X (.map #[] 0); obtain ⟨h6, s6, f6⟩ := hx5.below hbm
  have hst : ExRel w0 p rb qb k D lv L w g tb X.heap.size n i.s N a q S sl (.int .i64 ((0 : Nat) : Int)) (X.alloc (.map #[] 0)) :=
   ⟨0, 0, q, D, rfl, by omega, rfl, ⟨h6, hs5.trans s6, Fill.start ((hbm.block g HO5.out.1.2.2.2).trans hrow5) hrs, (hbm.block tb HO5.out.2.2.2.2).trans hbox, IMapB.made X, (s6.blk g HO5.out.1).1, (s6.blk tb HO5.out.2).1, f6 _ (Nat.le_refl _) (by simp), ⟨HLW.out, HLO.out.1, HLO.out.2.1, hs5.size⟩, ⟨HLO.out.2.2.1, by have := HO5.out.1.2.2.2; omega, by have := HO5.out.2.2.2.2; omega⟩, HLV.out⟩, Cod.sk_zero _, HA.out.2.2.2.1, by omega⟩
  have HST := Lib.hid hst; obtain ⟨y0, y1, y2, y3⟩ := row4 hgi5; rw [HN0.out.1] at y1; have x3 := (row4 ((hbm.block tb HO5.out.2.2.2.2).trans hbox)).2.2.2; clear hst hbm h6 s6 f6 hx5 hs5 hgi5 hrow5 hbox hrs
  go_wp2_with (refine wpList_imap_cap rfl 53 (.tmp 18) rfl _ _ Try.underlying53 n rfl ?_)
  clear y0 y1 y2 y3 x3; generalize X.alloc (.map #[] 0) = WL at *; generalize X.heap.size = mb at *
  go_loopw [23] (fun vi wr => ExRel w0 p rb qb k D lv L w g tb mb n i.s N a q S sl vi wr) (fun vi _ => n - (intOf vi).toNat)
  case atStart => exact HST.out
  case round =>
   clear HST; obtain ⟨r, c, d, D1, rfl, hrn0, her, hcp, hc, hd, hcd⟩ := hrel; have hps := HPS.out r c hc (by have := HA.out.2.2.2.2; omega) HA.out.1 HA.out.2.1 HA.out.2.2.1; have hpe := hps.done her; obtain ⟨Q, hQ⟩ : ∃ Q, Q = patsX (patX L N) r a S sl := ⟨_, rfl⟩; rw [← hQ] at her hcp hps hpe
   by_cases hrn : r < n
   ·obtain ⟨j1, d1, e1, e2, e3⟩ := sk_split _ 1 (n - r - 1) d (by rw [show 1 + (n - r - 1) = n - r by omega]; exact hd)
    rw [List.drop_drop] at e2; have hjn := sk_join _ r 1 c j1 hc (by rw [List.drop_drop]; exact e1); obtain ⟨R, hR⟩ : ∃ R, R = patX L N Q.at_ Q.S Q.sl := ⟨_, rfl⟩; have hstep := patsX_step (f := patX L N) hQ.symm hR.symm her; have hcall := hP Q.at_ j1 Q.S Q.sl D1 wr hcp.ex hps.go.inv hps.slots (hps.len.trans HA.out.2.2.1) (by rw [hpe.1]; exact e1) (by have := HA.out.2.2.2.2; omega); rw [← hR] at hcall; have HC := Lib.hid hcp; have HCALL := Lib.hid hcall; have HSTEP := Lib.hid hstep; have HJ := Lib.hid (And.intro hjn (And.intro e2 (And.intro e3 (And.intro hpe.2.1 hcd)))); have b1 : decide ((r : Int) < (n : Int)) = true := by simp; omega
    clear hps hpe her hcp hc hd hcd e1 e2 e3 hjn hR hQ hstep hcall hrn0
    by_cases he : R.err = 0
    ·have b2 : (R.err != 0) = false := by simpa using he
     have HE := Lib.hid he; clear he; have hin0 : (0 : Int) ≤ (r : Int) := by omega
     have hin1 : (r : Int) < (n : Int) := by omega
     go_wp2_with (first
      | (go_at_call 28
         refine (HCALL.out).mono ?_; rintro e3 w3 ⟨rfl, D3, h3, s3⟩; have h4 := HC.out.did (Q' := ⟨Q.cells, 0, R.at_, R.S, R.sl⟩) h3 s3 rfl; have x3 := (row4 h4.box).2.2.2; obtain ⟨hth, h5⟩ := h4.fillPut hrn; have HTH := Lib.hid hth; have H5 := Lib.hid h5; clear h3 s3 h4 hth h5)
      | (with_reducible show wpList _ _ _ (⟨none, .store _ (.tmp 39) _, _, _, _, _⟩ :: _) _ _
         refine wpList_store_mid rfl 49 (.tmp 39) (.tmp 38) rfl g (r * 4) #[.int .i64 1, .int .i64 r, .string ⟨#[]⟩, .slice none 0 0] rfl rfl HTH.out size_term (one4 _ _ _ _ _ _) ?_; clear x3
         skip)
      | (with_reducible show wpList _ _ _ (⟨none, .mapUpdate _ _ _ _, _, _, _, _⟩ :: _) _ _
         refine wpList_imapb_set rfl 53 (.tmp 40) (.tmp 41) (.tmp 42) rfl _ _ _ Try.underlying53 Try.underlying2 mb (numM Q.cells) rfl H5.out.map r rfl R.cell rfl ?_; intro w6 hm6 hg6))
     have h6 := H5.out.mapPut (cs := Q.cells ++ [R.cell]) hg6 (by rw [numM_snoc, HJ.out.2.2.2.1]; exact hm6); have hfin : patsX (patX L N) (r + 1) a S sl = ⟨Q.cells ++ [R.cell], 0, R.at_, R.S, R.sl⟩ := by rw [HSTEP.out, if_neg (fun h => h HE.out)]
     go_roundw
     case rel =>
      refine ⟨r + 1, c + j1, d1, D3, by go_num, by omega, by rw [hfin], by rw [hfin]; exact h6, HJ.out.1, ?_, by have := HJ.out.2.2; omega⟩; rw [show a + (c + j1) = a + c + j1 by omega, show n - (r + 1) = n - r - 1 by omega]; exact HJ.out.2.1
     case measure => simp [intOf]; omega
    ·have b2 : (R.err != 0) = true := by simpa using he
     have HE := Lib.hid he; clear he
     go_wp2_with (refine (HCALL.out).mono ?_; rintro e3 w3 ⟨rfl, D3, h3, s3⟩)
     go_ret2
     have hfin : patsX (patX L N) i.a.toNat a S sl = ⟨Q.cells, R.err, R.at_, R.S, R.sl⟩ := by
      have e1 := HSTEP.out; rw [if_pos HE.out] at e1; rw [HN0.out.2, patsX_err (m := r + 1) (by rw [e1]; exact HE.out) n (by omega), e1]
     rw [hfin]; unfold compX; rw [if_pos HE.out]; exact ⟨rfl, D3, h3, HC.out.st.trans s3⟩
   ·obtain rfl : r = n := by omega
    have b1 : decide ((r : Int) < (r : Int)) = false := by simp
    have hcok := fun c hc => (hpe.2.2 c hc)
    have HQ := Lib.hid hQ; have HE := Lib.hid her; have HI7 := Lib.hid hps.go.inv; have HC := Lib.hid hcp; clear hps hpe her hcp hc hd hcd hQ hrn0 hcok
    go_upto_region 12 with fail
    refine wp_region_rest (by kernel_rfl) ?_; have hd := (Below.refl wr.heap.size wr).drew; have hc7 := HC.out.below hd; have HC7 := Lib.hid hc7; obtain ⟨c0, c1, c2, c3, c11⟩ := row12 hc7.ex.row; obtain ⟨x0, x1, x2, x3⟩ := row4 hc7.box; clear hd hc7 HC; generalize wr.drew = W7 at *; obtain ⟨R, hR⟩ : ∃ R : PtR, R = putXE Q.at_ Q.S Q.sl (numM Q.cells) (compT i.s (varsX r)) := ⟨_, rfl⟩; have HR := Lib.hid hR; clear hR; refine rest_chainP (fun u => u = W7) 0 6 (.soft 0 (.soft 1 (.soft 2 (.soft 3 (.soft 4 (.soft 5 .nil)))))) (.soft _ (.soft _ (.soft _ (.soft _ (.soft _ (.soft _ .nil)))))) ⟨rfl, ⟨rfl, ⟨rfl, ⟨rfl, ⟨rfl, ⟨rfl, trivial⟩⟩⟩⟩⟩⟩ (by kernel_rfl) (by kernel_rfl) (by kernel_rfl) (by kernel_rfl) (.inr (by kernel_rfl)) rfl ?_; refine cS (a1 := ?ma6) ?mh6 ?mr6
    case mh6 =>
     intro u hu E hE; subst hu; go_wp2; rfl
    refine chainP_nck _ _ rfl rfl rfl ?_; simp only [Act.put, zA, zB, zC, zD, zE, zF, zG, Nat.reduceAdd]; refine cS (a1 := ?ma7) ?mh7 ?mr7
    case mh7 =>
     intro u hu E hE; subst hu; go_wp2; rfl
    refine cS (a1 := ?ma8) ?mh8 ?mr8
    case mh8 =>
     intro u hu E hE; subst hu; go_wp2; rfl
    refine cS (a1 := ?ma9) ?mh9 ?mr9
    case mh9 =>
     intro u hu E hE; subst hu; go_wp2; rfl
    refine cS (a1 := ?ma10) ?mh10 ?mr10
    case mh10 =>
     intro u hu E hE; subst hu; go_wp2; rfl
    refine chainP_nil ?_; clear c0 c1 c2 c3 c11 x0 x1 x2 x3
    have hT : IsTm W7 (fun b => b = g) (.agg #[.int .i64 4, .int .i64 0, .string i.s, .slice (some ⟨g, 0, none⟩) r r]) (compT i.s (varsX r)) := by
     have h := IsTm.mk' (w := W7) (P := fun b => b = g) (t := compT i.s (varsX r)) (a := some ⟨g, 0, none⟩) (cap := r) (by show IsSl _ _ (.slice _ (varsX r).length r) _; rw [varsX_len]; exact vFill_sl HC7.out.fill); have e : (compT i.s (varsX r)).args.length = r := varsX_len r; rw [e] at h; exact h
    have HT := Lib.hid hT; clear hT; refine rest_chainP (fun _ => True) 6 9 (.one 6 (.soft 7 (.soft 8 .nil))) (.one _ (.soft _ (.soft _ .nil))) ⟨rfl, ⟨rfl, ⟨rfl, trivial⟩⟩⟩ (by kernel_rfl) (by kernel_rfl) (by kernel_rfl) (by kernel_rfl) (.inr (by kernel_rfl)) trivial ?_; refine chainP_one ?_; intro E hE
    go_wp2_with (refine (law_PutV HC7.out.ex.law HI7.out HC7.out.map HC7.out.mO.1 (Nat.le_trans HC7.out.low.1 HC7.out.low.2.2.2) HT.out (fun b e => e ▸ HC7.out.gO.1) (by simp [compT, Tm.size, vars_size]; omega)).mono ?_; rintro e3 w3 ⟨rfl, D3, F, hl⟩)
    have HL := Lib.hid hl; clear hl; obtain ⟨f1, hf1⟩ : ∃ f, f = (putA Q.S (numM Q.cells) (compT i.s (varsX r))).1 := ⟨_, rfl⟩; obtain ⟨f2, hf2⟩ : ∃ f, f = (putA Q.S (numM Q.cells) (compT i.s (varsX r))).2 := ⟨_, rfl⟩; rw [← hf1, ← hf2]; have HF := Lib.hid (And.intro hf1 hf2); clear hf1 hf2; refine ⟨trivial, ?_⟩; refine cV (.int .i64 f1) ?_ ?_
    ·simp only [Act.put, zA, zB, zC, zD, zE, zF, zG, Nat.reduceAdd]
     intro u hu E hE; go_wp2; exact hE
    simp only [Act.put, zA, zB, zC, zD, zE, zF, zG, Nat.reduceAdd]; refine cV (.int .i64 f2) ?_ ?_
    ·simp only [Act.put, zA, zB, zC, zD, zE, zF, zG, Nat.reduceAdd]
     intro u hu E hE; go_wp2; exact hE
    simp only [Act.put, zA, zB, zC, zD, zE, zF, zG, Nat.reduceAdd]; refine chainP_nil ?_; refine rest_lineL 9 11 [_, _] rfl (by kernel_rfl) (by decide) (by decide) (by kernel_rfl) ?_; go_wp2; refine then_rest (rest_end (by decide) ?_); go_wp2; go_ret2; obtain ⟨g1, g2⟩ := HC7.out.put HL.out; rw [HN0.out.2, ← HQ.out]; unfold compX putXE; rw [if_neg (fun h => h HE.out), HN0.out.2, ← HF.out.1, ← HF.out.2]; exact ⟨rfl, D3, g1, g2⟩
 ·intro E hE
  go_wp2; refine ⟨below_new _ _, ?_⟩; have hbU := below_new W0 (.cells #[.int .i64 0, .int .i64 0, .string ⟨#[]⟩, .slice none 0 0] 49 (0, 0)); have hnU := heap_alloc_new W0 (.cells #[.int .i64 0, .int .i64 0, .string ⟨#[]⟩, .slice none 0 0] 49 (0, 0)); have hzU : W0.heap.size < (W0.alloc (.cells #[.int .i64 0, .int .i64 0, .string ⟨#[]⟩, .slice none 0 0] 49 (0, 0))).heap.size := by simp
  generalize W0.alloc (.cells #[.int .i64 0, .int .i64 0, .string ⟨#[]⟩, .slice none 0 0] 49 (0, 0)) = wU at *; refine chainP_one ?_; intro E hE; refine wpList_make_full _ rfl (.tmp 14) (.tmp 14) 47 rfl wU.heap.size 49 i0 _ 4 Try.underlying47 hti hz0 hz1 .i64 .i64 _ _ n rfl rfl rfl rfl (by rw [hz2]; omega) (by unfold maxLen; omega) (Nat.le_refl _) ?_; intro UX hown hgr; obtain ⟨row, hrow, hrs⟩ := own_row hown; have hbA : Below wU.heap.size wU UX := (Below.refl _ _).grown hgr (Nat.le_refl _) (by simp); clear hown hgr; refine hE _ _ ⟨hbU.trans (hbA.mono hbU.size), ?_⟩; simp only [Act.put, zA, zB, zC, zD, zE, zF, zG, Nat.reduceAdd]; refine cS (a1 := ?ma11) ?mh11 ?mr11
  case mh11 =>
   intro u hu E hE; go_wp2; rfl
  refine chainP_nil ?_; have hbX := hbU.trans (hbA.mono hbU.size); obtain ⟨h4, s4, f4⟩ := HW0.out.below hbX; have hzA : wU.heap.size < UX.heap.size := (Array.getElem?_eq_some_iff.1 hrow).1; have HX4 := Lib.hid h4; have HS4 := Lib.hid (HS0.out.trans s4); have HG4 := Lib.hid ((hbX.block gi lgi).trans HI3.out); have HGR := Lib.hid hrow; have HTB := Lib.hid ((hbA.block W0.heap.size hzU).trans hnU); have HO := Lib.hid (And.intro (f4 wU.heap.size (by omega) hzA) (And.intro (f4 W0.heap.size (Nat.le_refl _) (by omega)) trivial)); have HLO := Lib.hid (show w.heap.size ≤ wU.heap.size ∧ w.heap.size ≤ W0.heap.size ∧ wU.heap.size ≠ W0.heap.size ∧ gi ≠ W0.heap.size ∧ True from ⟨by have := HS0.out.size; omega, HS0.out.size, by omega, by omega, trivial⟩); clear hbU hnU hbA hbX hrow h4 s4 f4 hzA hzU HW0 HS0 HI3 hE; generalize wU.heap.size = g at *; generalize W0.heap.size = tb at *; refine rest_lineL 7 8 [_] rfl (by kernel_rfl) (by decide) (by decide) (by kernel_rfl) ?_; refine wpList_store_row rfl 49 (.tmp 6) (.tmp 16) rfl tb #[.int .i64 4, .int .i64 0, .string i.s, .slice (some ⟨g, 0, none⟩) n n] rfl rfl _ _ HTB.out size_term rfl (one4 _ _ _ _ _ _) ?_; go_wp2; refine then_rest (rest_end (by decide) ?_); have hbox := setRow_heap UX tb _ (#[.int .i64 4, .int .i64 0, .string i.s, .slice (some ⟨g, 0, none⟩) n n] : Array Value) _ _ HTB.out; have hoth : ∀ b, b ≠ tb → (UX.setRow tb #[.int .i64 4, .int .i64 0, .string i.s, .slice (some ⟨g, 0, none⟩) n n]).heap[b]? = UX.heap[b]? := fun b hb => setRow_other _ _ _ _ hb
  have hk : Keeps UX (UX.setRow tb #[.int .i64 4, .int .i64 0, .string i.s, .slice (some ⟨g, 0, none⟩) n n]) (fun b => b = tb) := ⟨rfl, rfl, rfl, by simp, fun b _ hb => hoth b hb⟩; have hx5 := HX4.out.own hk HO.out.2.1 (Nat.le_trans HLW.out HLO.out.2.1) (fun e => by have := HLV.out tb e; have := HLO.out; omega); have hs5 := HS4.out.own hk HLO.out.2.1; have hgi5 := (hoth gi HLO.out.2.2.2.1).trans HG4.out; have hrow5 := (hoth g HLO.out.2.2.1).trans HGR.out; have HO5 := Lib.hid (And.intro (HO.out.1.keep hk.size) (HO.out.2.1.keep hk.size)); clear hoth hk HX4 HS4 HG4 HO HTB HGR; generalize UX.setRow tb #[.int .i64 4, .int .i64 0, .string i.s, .slice (some ⟨g, 0, none⟩) n n] = X at *; have hbm := below_new X (.map #[] 0); obtain ⟨h6, s6, f6⟩ := hx5.below hbm
  have hst : ExRel w0 p rb qb k D lv L w g tb X.heap.size n i.s N a q S sl (.int .i64 ((0 : Nat) : Int)) (X.alloc (.map #[] 0)) :=
   ⟨0, 0, q, D, rfl, by omega, rfl, ⟨h6, hs5.trans s6, Fill.start ((hbm.block g HO5.out.1.2.2.2).trans hrow5) hrs, (hbm.block tb HO5.out.2.2.2.2).trans hbox, IMapB.made X, (s6.blk g HO5.out.1).1, (s6.blk tb HO5.out.2).1, f6 _ (Nat.le_refl _) (by simp), ⟨HLW.out, HLO.out.1, HLO.out.2.1, hs5.size⟩, ⟨HLO.out.2.2.1, by have := HO5.out.1.2.2.2; omega, by have := HO5.out.2.2.2.2; omega⟩, HLV.out⟩, Cod.sk_zero _, HA.out.2.2.2.1, by omega⟩
  have HST := Lib.hid hst; obtain ⟨y0, y1, y2, y3⟩ := row4 hgi5; rw [HN0.out.1] at y1; have x3 := (row4 ((hbm.block tb HO5.out.2.2.2.2).trans hbox)).2.2.2; clear hst hbm h6 s6 f6 hx5 hs5 hgi5 hrow5 hbox hrs
  go_wp2_with (refine wpList_imap_cap rfl 53 (.tmp 18) rfl _ _ Try.underlying53 n rfl ?_)
  clear y0 y1 y2 y3 x3; generalize X.alloc (.map #[] 0) = WL at *; generalize X.heap.size = mb at *
  go_loopw [23] (fun vi wr => ExRel w0 p rb qb k D lv L w g tb mb n i.s N a q S sl vi wr) (fun vi _ => n - (intOf vi).toNat)
  case atStart => exact HST.out
  case round =>
   clear HST; obtain ⟨r, c, d, D1, rfl, hrn0, her, hcp, hc, hd, hcd⟩ := hrel; have hps := HPS.out r c hc (by have := HA.out.2.2.2.2; omega) HA.out.1 HA.out.2.1 HA.out.2.2.1; have hpe := hps.done her; obtain ⟨Q, hQ⟩ : ∃ Q, Q = patsX (patX L N) r a S sl := ⟨_, rfl⟩; rw [← hQ] at her hcp hps hpe
   by_cases hrn : r < n
   ·obtain ⟨j1, d1, e1, e2, e3⟩ := sk_split _ 1 (n - r - 1) d (by rw [show 1 + (n - r - 1) = n - r by omega]; exact hd)
    rw [List.drop_drop] at e2; have hjn := sk_join _ r 1 c j1 hc (by rw [List.drop_drop]; exact e1); obtain ⟨R, hR⟩ : ∃ R, R = patX L N Q.at_ Q.S Q.sl := ⟨_, rfl⟩; have hstep := patsX_step (f := patX L N) hQ.symm hR.symm her; have hcall := hP Q.at_ j1 Q.S Q.sl D1 wr hcp.ex hps.go.inv hps.slots (hps.len.trans HA.out.2.2.1) (by rw [hpe.1]; exact e1) (by have := HA.out.2.2.2.2; omega); rw [← hR] at hcall; have HC := Lib.hid hcp; have HCALL := Lib.hid hcall; have HSTEP := Lib.hid hstep; have HJ := Lib.hid (And.intro hjn (And.intro e2 (And.intro e3 (And.intro hpe.2.1 hcd)))); have b1 : decide ((r : Int) < (n : Int)) = true := by simp; omega
    clear hps hpe her hcp hc hd hcd e1 e2 e3 hjn hR hQ hstep hcall hrn0
    by_cases he : R.err = 0
    ·have b2 : (R.err != 0) = false := by simpa using he
     have HE := Lib.hid he; clear he; have hin0 : (0 : Int) ≤ (r : Int) := by omega
     have hin1 : (r : Int) < (n : Int) := by omega
     go_wp2_with (first
      | (go_at_call 28
         refine (HCALL.out).mono ?_; rintro e3 w3 ⟨rfl, D3, h3, s3⟩; have h4 := HC.out.did (Q' := ⟨Q.cells, 0, R.at_, R.S, R.sl⟩) h3 s3 rfl; have x3 := (row4 h4.box).2.2.2; obtain ⟨hth, h5⟩ := h4.fillPut hrn; have HTH := Lib.hid hth; have H5 := Lib.hid h5; clear h3 s3 h4 hth h5)
      | (with_reducible show wpList _ _ _ (⟨none, .store _ (.tmp 39) _, _, _, _, _⟩ :: _) _ _
         refine wpList_store_mid rfl 49 (.tmp 39) (.tmp 38) rfl g (r * 4) #[.int .i64 1, .int .i64 r, .string ⟨#[]⟩, .slice none 0 0] rfl rfl HTH.out size_term (one4 _ _ _ _ _ _) ?_; clear x3
         skip)
      | (with_reducible show wpList _ _ _ (⟨none, .mapUpdate _ _ _ _, _, _, _, _⟩ :: _) _ _
         refine wpList_imapb_set rfl 53 (.tmp 40) (.tmp 41) (.tmp 42) rfl _ _ _ Try.underlying53 Try.underlying2 mb (numM Q.cells) rfl H5.out.map r rfl R.cell rfl ?_; intro w6 hm6 hg6))
     have h6 := H5.out.mapPut (cs := Q.cells ++ [R.cell]) hg6 (by rw [numM_snoc, HJ.out.2.2.2.1]; exact hm6); have hfin : patsX (patX L N) (r + 1) a S sl = ⟨Q.cells ++ [R.cell], 0, R.at_, R.S, R.sl⟩ := by rw [HSTEP.out, if_neg (fun h => h HE.out)]
     go_roundw
     case rel =>
      refine ⟨r + 1, c + j1, d1, D3, by go_num, by omega, by rw [hfin], by rw [hfin]; exact h6, HJ.out.1, ?_, by have := HJ.out.2.2; omega⟩; rw [show a + (c + j1) = a + c + j1 by omega, show n - (r + 1) = n - r - 1 by omega]; exact HJ.out.2.1
     case measure => simp [intOf]; omega
    ·have b2 : (R.err != 0) = true := by simpa using he
     have HE := Lib.hid he; clear he
     go_wp2_with (refine (HCALL.out).mono ?_; rintro e3 w3 ⟨rfl, D3, h3, s3⟩)
     go_ret2
     have hfin : patsX (patX L N) i.a.toNat a S sl = ⟨Q.cells, R.err, R.at_, R.S, R.sl⟩ := by
      have e1 := HSTEP.out; rw [if_pos HE.out] at e1; rw [HN0.out.2, patsX_err (m := r + 1) (by rw [e1]; exact HE.out) n (by omega), e1]
     rw [hfin]; unfold compX; rw [if_pos HE.out]; exact ⟨rfl, D3, h3, HC.out.st.trans s3⟩
   ·obtain rfl : r = n := by omega
    have b1 : decide ((r : Int) < (r : Int)) = false := by simp
    have hcok := fun c hc => (hpe.2.2 c hc)
    have HQ := Lib.hid hQ; have HE := Lib.hid her; have HI7 := Lib.hid hps.go.inv; have HC := Lib.hid hcp; clear hps hpe her hcp hc hd hcd hQ hrn0 hcok
    go_upto_region 12 with fail
    refine wp_region_rest (by kernel_rfl) ?_; have hd := (Below.refl wr.heap.size wr).drew; have hc7 := HC.out.below hd; have HC7 := Lib.hid hc7; obtain ⟨c0, c1, c2, c3, c11⟩ := row12 hc7.ex.row; obtain ⟨x0, x1, x2, x3⟩ := row4 hc7.box; clear hd hc7 HC; generalize wr.drew = W7 at *; obtain ⟨R, hR⟩ : ∃ R : PtR, R = putXE Q.at_ Q.S Q.sl (numM Q.cells) (compT i.s (varsX r)) := ⟨_, rfl⟩; have HR := Lib.hid hR; clear hR; refine rest_chainP (fun u => u = W7) 0 6 (.soft 0 (.soft 1 (.soft 2 (.soft 3 (.soft 4 (.soft 5 .nil)))))) (.soft _ (.soft _ (.soft _ (.soft _ (.soft _ (.soft _ .nil)))))) ⟨rfl, ⟨rfl, ⟨rfl, ⟨rfl, ⟨rfl, ⟨rfl, trivial⟩⟩⟩⟩⟩⟩ (by kernel_rfl) (by kernel_rfl) (by kernel_rfl) (by kernel_rfl) (.inr (by kernel_rfl)) rfl ?_; refine cS (a1 := ?ma12) ?mh12 ?mr12
    case mh12 =>
     intro u hu E hE; subst hu; go_wp2; rfl
    refine chainP_nck _ _ rfl rfl rfl ?_; simp only [Act.put, zA, zB, zC, zD, zE, zF, zG, Nat.reduceAdd]; refine cS (a1 := ?ma13) ?mh13 ?mr13
    case mh13 =>
     intro u hu E hE; subst hu; go_wp2; rfl
    refine cS (a1 := ?ma14) ?mh14 ?mr14
    case mh14 =>
     intro u hu E hE; subst hu; go_wp2; rfl
    refine cS (a1 := ?ma15) ?mh15 ?mr15
    case mh15 =>
     intro u hu E hE; subst hu; go_wp2; rfl
    refine cS (a1 := ?ma16) ?mh16 ?mr16
    case mh16 =>
     intro u hu E hE; subst hu; go_wp2; rfl
    refine chainP_nil ?_; clear c0 c1 c2 c3 c11 x0 x1 x2 x3
    have hT : IsTm W7 (fun b => b = g) (.agg #[.int .i64 4, .int .i64 0, .string i.s, .slice (some ⟨g, 0, none⟩) r r]) (compT i.s (varsX r)) := by
     have h := IsTm.mk' (w := W7) (P := fun b => b = g) (t := compT i.s (varsX r)) (a := some ⟨g, 0, none⟩) (cap := r) (by show IsSl _ _ (.slice _ (varsX r).length r) _; rw [varsX_len]; exact vFill_sl HC7.out.fill); have e : (compT i.s (varsX r)).args.length = r := varsX_len r; rw [e] at h; exact h
    have HT := Lib.hid hT; clear hT; refine rest_chainP (fun _ => True) 6 9 (.one 6 (.soft 7 (.soft 8 .nil))) (.one _ (.soft _ (.soft _ .nil))) ⟨rfl, ⟨rfl, ⟨rfl, trivial⟩⟩⟩ (by kernel_rfl) (by kernel_rfl) (by kernel_rfl) (by kernel_rfl) (.inr (by kernel_rfl)) trivial ?_; refine chainP_one ?_; intro E hE
    go_wp2_with (refine (law_PutV HC7.out.ex.law HI7.out HC7.out.map HC7.out.mO.1 (Nat.le_trans HC7.out.low.1 HC7.out.low.2.2.2) HT.out (fun b e => e ▸ HC7.out.gO.1) (by simp [compT, Tm.size, vars_size]; omega)).mono ?_; rintro e3 w3 ⟨rfl, D3, F, hl⟩)
    have HL := Lib.hid hl; clear hl; obtain ⟨f1, hf1⟩ : ∃ f, f = (putA Q.S (numM Q.cells) (compT i.s (varsX r))).1 := ⟨_, rfl⟩; obtain ⟨f2, hf2⟩ : ∃ f, f = (putA Q.S (numM Q.cells) (compT i.s (varsX r))).2 := ⟨_, rfl⟩; rw [← hf1, ← hf2]; have HF := Lib.hid (And.intro hf1 hf2); clear hf1 hf2; refine ⟨trivial, ?_⟩; refine cV (.int .i64 f1) ?_ ?_
    ·simp only [Act.put, zA, zB, zC, zD, zE, zF, zG, Nat.reduceAdd]
     intro u hu E hE; go_wp2; exact hE
    simp only [Act.put, zA, zB, zC, zD, zE, zF, zG, Nat.reduceAdd]; refine cV (.int .i64 f2) ?_ ?_
    ·simp only [Act.put, zA, zB, zC, zD, zE, zF, zG, Nat.reduceAdd]
     intro u hu E hE; go_wp2; exact hE
    simp only [Act.put, zA, zB, zC, zD, zE, zF, zG, Nat.reduceAdd]; refine chainP_nil ?_; refine rest_lineL 9 11 [_, _] rfl (by kernel_rfl) (by decide) (by decide) (by kernel_rfl) ?_; go_wp2; refine then_rest (rest_end (by decide) ?_); go_wp2; go_ret2; obtain ⟨g1, g2⟩ := HC7.out.put HL.out; rw [HN0.out.2, ← HQ.out]; unfold compX putXE; rw [if_neg (fun h => h HE.out), HN0.out.2, ← HF.out.1, ← HF.out.2]; exact ⟨rfl, D3, g1, g2⟩
end Go.Proofs.Ytcbijikalfodnaa.Tms
namespace Go.Proofs.Ytcbijikalfodnaa.Tms
open Go Go.RowKit Go.Proofs.Ytcbijikalfodnaa.Reg Go.Proofs.Ytcbijikalfodnaa.Rws Go.Proofs.Ytcbijikalfodnaa.Maps
noncomputable def argN (S : Sto) (x : Nat) : List Nat := (cellF S x).args.map Int.toNat
noncomputable def hasP (S : Sto) (v : Nat) : Nat → List Nat → Option Bool × Nat
 | 0, l => if l = [] then (some false, 0) else (none, 0)
 | k + 1, l => match l with
   | [] => (some false, k + 1)
   | c :: l => if fol S c = v then (some true, k) else hasP S v k (argN S c ++ l)
noncomputable def bindP (S : Sto) (sf : Bool) (k v t : Nat) (tk : Int) : Option Bool × Sto × Nat :=
 if sf = true ∧ tk ≠ 1 then (match (hasP S v k [t]).1 with
  | none => (none, S, (hasP S v k [t]).2)
  | some true => (some false, S, (hasP S v k [t]).2)
  | some false => (some true, bindS S v t, (hasP S v k [t]).2)) else (some true, bindS S v t, k)
noncomputable def oneP (S : Sto) (sf : Bool) (k a b : Nat) : (Option Bool × Sto × Nat) × List (Nat × Nat) :=
 if fol S a = fol S b then ((some true, S, k), []) else
 if (cellF S a).k = 1 then (bindP S sf k (fol S a) (fol S b) (cellF S b).k, []) else
 if (cellF S b).k = 1 then (bindP S sf k (fol S b) (fol S a) (cellF S a).k, []) else
 if (cellF S a).k ≠ (cellF S b).k ∨ (cellF S a).n ≠ (cellF S b).n ∨ (cellF S a).s ≠ (cellF S b).s ∨ (cellF S a).args.length ≠ (cellF S b).args.length then ((some false, S, k), []) else
 ((some true, S, k), (argN S a).zip (argN S b))
noncomputable def uniP (sf : Bool) : Nat → Nat → Sto → List (Nat × Nat) → Option Bool × Sto × Nat
 | 0, k, S, l => if l = [] then (some true, S, k) else (none, S, 0)
 | f + 1, k, S, l => match l with
   | [] => (some true, S, k)
   | p :: l => if k = 0 then (none, S, 0) else
     match (oneP S sf (k - 1) p.1 p.2).1 with
     | (some true, S', k') => uniP sf f k' S' ((oneP S sf (k - 1) p.1 p.2).2 ++ l)
     | r => r
theorem hasP_le (S : Sto) (v : Nat) : ∀ (k : Nat) (l : List Nat), (hasP S v k l).2 ≤ k
 | 0, l => by unfold hasP; split <;> exact Nat.le_refl _
 | k + 1, [] => Nat.le_refl _
 | k + 1, c :: l => by
   unfold hasP; dsimp only
   split
   ·exact Nat.le_succ _
   ·have := hasP_le S v k (argN S c ++ l); omega
theorem bindP_le (S : Sto) (sf : Bool) (k v t : Nat) (tk : Int) : (bindP S sf k v t tk).2.2 ≤ k := by
 have := hasP_le S v k [t]; unfold bindP
 split
 ·split <;> exact this
 ·exact Nat.le_refl _
theorem oneP_le (S : Sto) (sf : Bool) (k a b : Nat) : (oneP S sf k a b).1.2.2 ≤ k := by
 unfold oneP
 split
 ·exact Nat.le_refl _
 split
 ·exact bindP_le ..
 split
 ·exact bindP_le ..
 split <;> exact Nat.le_refl _
/-! ### What a step leaves -/
inductive Ext (S : Sto) : Sto → Prop
 | refl : Inv S → Ext S S
 | step {T : Sto} (v t : Nat) (h : Ext S T) (hI : Inv T) (hv : v < T.cells.length) (ht : t < T.cells.length) (hvl : (T.cells[v]).lk = -1) (htl : (T.cells[t]).lk = -1) (hk : (T.cells[v]).k = 1) (hne : v ≠ t) : Ext S (bindS T v t)
theorem Ext.inv {S T : Sto} (h : Ext S T) : Inv T := by
 cases h with
 | refl h => exact h
 | step v t h hI hv ht hvl htl hk hne => exact hI.bind hv ht hvl htl hk hne
theorem Ext.since {S T : Sto} (h : Ext S T) : Since S T := by
 induction h with
 | refl h => exact .refl
 | step v t h hI hv ht hvl htl hk hne ih => exact .step v t ih hv hvl
theorem Ext.trans {S T U : Sto} (h : Ext S T) (h' : Ext T U) : Ext S U := by
 induction h' with
 | refl _ => exact h
 | step v t _ hI hv ht hvl htl hk hne ih => exact .step v t ih hI hv ht hvl htl hk hne
theorem Ext.len {S T : Sto} (h : Ext S T) : T.cells.length = S.cells.length := h.since.len.1
theorem Inv.root {S : Sto} (h : Inv S) {x : Nat} (hx : x < S.cells.length) : ∃ hl : fol S x < S.cells.length, S.cells[fol S x] = cellF S x ∧ (S.cells[fol S x]).lk = -1 := by
 have hl := h.fol_lt hx; refine ⟨hl, ?_, h.fol_free hx⟩; unfold cellF; rw [List.getElem?_eq_getElem hl]; rfl
theorem Inv.nv {S : Sto} (h : Inv S) {x : Nat} (hx : x < S.cells.length) (hk : (S.cells[x]).k ≠ 1) : fol S x = x ∧ cellF S x = S.cells[x] := by
 have hl : (S.cells[x]).lk = -1 := by
  rcases (h.cell x _ (List.getElem?_eq_getElem hx)).lk with e | e
  ·exact e
  ·exact absurd e.2.2 hk
 have e := fol_root (List.getElem?_eq_getElem hx) hl; refine ⟨e, ?_⟩; unfold cellF; rw [e, List.getElem?_eq_getElem hx]; rfl
theorem Ext.nv {S T : Sto} (h : Ext S T) {x : Nat} (hx : x < S.cells.length) (hk : (S.cells[x]).k ≠ 1) : T.cells[x]? = S.cells[x]? := by
 induction h with
 | refl _ => rfl
 | step v t h hI hv ht hvl htl hk' hne ih =>
   rw [bind_get hv, if_neg, ih]; intro e; subst e; rw [List.getElem?_eq_getElem hv, List.getElem?_eq_getElem hx] at ih; simp only [Option.some.injEq] at ih; rw [ih] at hk'; exact hk hk'
theorem Ext.nvF {S T : Sto} (h : Ext S T) (hS : Inv S) {x : Nat} (hx : x < S.cells.length) (hk : (S.cells[x]).k ≠ 1) : fol T x = x ∧ cellF T x = S.cells[x] := by
 have hx' : x < T.cells.length := by rw [h.len]; exact hx
 have e := h.nv hx hk; rw [List.getElem?_eq_getElem hx, List.getElem?_eq_getElem hx'] at e; simp only [Option.some.injEq] at e; have := h.inv.nv hx' (by rw [e]; exact hk); rw [e] at this; exact this
theorem Ext.fol {S T : Sto} (h : Ext S T) {x y : Nat} (hx : x < S.cells.length) (hy : y < S.cells.length) (e : fol S x = fol S y) : fol T x = fol T y := by
 induction h with
 | refl _ => exact e
 | step v t h hI hv ht hvl htl hk hne ih =>
   have hl := h.len; rw [fol_bind hI hv ht hvl htl hne (by omega), fol_bind hI hv ht hvl htl hne (by omega), ih]
theorem Ext.folfol {S T : Sto} (h : Ext S T) (hS : Inv S) {x : Nat} (hx : x < S.cells.length) : Tms.fol T (Tms.fol S x) = Tms.fol T x :=
 h.fol (hS.fol_lt hx) hx (hS.fol_fol hx)
theorem bindP_ext {S : Sto} (hS : Inv S) {sf : Bool} {k v t : Nat} {tk : Int} (hv : v < S.cells.length) (ht : t < S.cells.length) (hvl : (S.cells[v]).lk = -1) (htl : (S.cells[t]).lk = -1) (hk : (S.cells[v]).k = 1) (hne : v ≠ t) :
 ((bindP S sf k v t tk).1 = some true ∧ (bindP S sf k v t tk).2.1 = bindS S v t) ∨ ((bindP S sf k v t tk).1 ≠ some true ∧ (bindP S sf k v t tk).2.1 = S) := by
 unfold bindP
 split
 ·split
  ·exact .inr ⟨by simp, rfl⟩
  ·exact .inr ⟨by simp, rfl⟩
  ·exact .inl ⟨rfl, rfl⟩
 ·exact .inl ⟨rfl, rfl⟩
theorem argN_mem {S : Sto} (hS : Inv S) {x y : Nat} (hx : x < S.cells.length) (h : y ∈ argN S x) : y < S.cells.length := by
 obtain ⟨hl, e, -⟩ := hS.root hx; obtain ⟨a, ha, rfl⟩ := List.mem_map.1 h; rw [← e] at ha; have := (hS.cell _ _ (List.getElem?_eq_getElem hl)).args a ha; omega
theorem oneP_more {S : Sto} (hS : Inv S) {sf : Bool} {k a b : Nat} (ha : a < S.cells.length) (hb : b < S.cells.length) : ∀ p ∈ (oneP S sf k a b).2, p.1 < S.cells.length ∧ p.2 < S.cells.length := by
 unfold oneP
 split
 ·intro p h; cases h
 split
 ·intro p h; cases h
 split
 ·intro p h; cases h
 split
 ·intro p h; cases h
 ·intro p h
  have := List.of_mem_zip (a := p.1) (b := p.2) h; exact ⟨argN_mem hS ha this.1, argN_mem hS hb this.2⟩
theorem oneP_ext {S : Sto} (hS : Inv S) {sf : Bool} {k a b : Nat} (ha : a < S.cells.length) (hb : b < S.cells.length) : Ext S (oneP S sf k a b).1.2.1 := by
 obtain ⟨la, ea, fa⟩ := hS.root ha; obtain ⟨lb, eb, fb⟩ := hS.root hb; unfold oneP
 split
 ·exact .refl hS
 rename_i hne
 split
 ·rename_i hk
  have hk' : (S.cells[fol S a]).k = 1 := by rw [ea]; exact hk
  rcases bindP_ext hS (sf := sf) (k := k) (tk := (cellF S b).k) la lb fa fb hk' hne with ⟨-, e⟩ | ⟨-, e⟩
  ·rw [e]; exact .step _ _ (.refl hS) hS la lb fa fb hk' hne
  ·rw [e]; exact .refl hS
 split
 ·rename_i hk
  have hk' : (S.cells[fol S b]).k = 1 := by rw [eb]; exact hk
  rcases bindP_ext hS (sf := sf) (k := k) (tk := (cellF S a).k) lb la fb fa hk' (Ne.symm hne) with ⟨-, e⟩ | ⟨-, e⟩
  ·rw [e]; exact .step _ _ (.refl hS) hS lb la fb fa hk' (Ne.symm hne)
  ·rw [e]; exact .refl hS
 split <;> exact .refl hS
def InL (S : Sto) (l : List (Nat × Nat)) : Prop := ∀ p ∈ l, p.1 < S.cells.length ∧ p.2 < S.cells.length
theorem InL.next {S T : Sto} {p : Nat × Nat} {m l : List (Nat × Nat)} (h : InL S (p :: l)) (hm : ∀ q ∈ m, q.1 < S.cells.length ∧ q.2 < S.cells.length) (e : T.cells.length = S.cells.length) : InL T (m ++ l) := by
 intro q hq; rw [e]; rcases List.mem_append.1 hq with hq | hq
 ·exact hm q hq
 ·exact h q (List.mem_cons_of_mem _ hq)
theorem uniP_ext (sf : Bool) : ∀ (f k : Nat) (S : Sto) (l : List (Nat × Nat)), Inv S → InL S l → Ext S (uniP sf f k S l).2.1
 | 0, k, S, l, hS, hl => by unfold uniP; split <;> exact .refl hS
 | f + 1, k, S, [], hS, hl => .refl hS
 | f + 1, k, S, p :: l, hS, hl => by
   obtain ⟨h1, h2⟩ := hl p (List.mem_cons_self ..); have hx := oneP_ext hS (sf := sf) (k := k - 1) h1 h2; have hm := oneP_more hS (sf := sf) (k := k - 1) h1 h2; unfold uniP; dsimp only
   split
   ·exact .refl hS
   ·split
    ·rename_i S' k' e
     rw [e] at hx; exact hx.trans (uniP_ext sf f k' S' _ hx.inv (hl.next hm hx.len))
    ·exact hx
/-! ### Alike to a depth -/
def Pw (R : Nat → Nat → Prop) : List Int → List Int → Prop
 | [], [] => True
 | a :: l, b :: m => R a.toNat b.toNat ∧ Pw R l m
 | _, _ => False
theorem Pw.imp {R R' : Nat → Nat → Prop} : ∀ {l m : List Int}, Pw R l m → (∀ a b, a ∈ l → b ∈ m → R a.toNat b.toNat → R' a.toNat b.toNat) → Pw R' l m
 | [], [], _, _ => trivial
 | a :: l, b :: m, h, hi => ⟨hi a b (List.mem_cons_self ..) (List.mem_cons_self ..) h.1, Pw.imp h.2 fun a b ha hb => hi a b (List.mem_cons_of_mem _ ha) (List.mem_cons_of_mem _ hb)⟩
 | [], _ :: _, h, _ => h.elim
 | _ :: _, [], h, _ => h.elim
theorem Pw.refl {R : Nat → Nat → Prop} (h : ∀ a, R a a) : ∀ l, Pw R l l
 | [] => trivial
 | a :: l => ⟨h _, Pw.refl h l⟩
theorem Pw.symm {R R' : Nat → Nat → Prop} (h : ∀ a b, R a b → R' b a) : ∀ {l m : List Int}, Pw R l m → Pw R' m l
 | [], [], _ => trivial
 | a :: l, b :: m, hp => ⟨h _ _ hp.1, Pw.symm h hp.2⟩
 | [], _ :: _, hp => hp.elim
 | _ :: _, [], hp => hp.elim
theorem Pw.trans {R R' R'' : Nat → Nat → Prop} (h : ∀ a b c, R a b → R' b c → R'' a c) : ∀ {l m n : List Int}, Pw R l m → Pw R' m n → Pw R'' l n
 | [], [], [], _, _ => trivial
 | a :: l, b :: m, c :: n, h1, h2 => ⟨h _ _ _ h1.1 h2.1, Pw.trans h h1.2 h2.2⟩
 | [], [], _ :: _, _, h2 => h2.elim
 | [], _ :: _, _, h1, _ => h1.elim
 | _ :: _, [], _, h1, _ => h1.elim
 | _ :: _, _ :: _, [], _, h2 => h2.elim
theorem Pw.len {R : Nat → Nat → Prop} : ∀ {l m : List Int}, Pw R l m → l.length = m.length
 | [], [], _ => rfl
 | a :: l, b :: m, h => by simp [Pw.len h.2]
 | [], _ :: _, h => h.elim
 | _ :: _, [], h => h.elim
theorem Pw.zip {R : Nat → Nat → Prop} : ∀ {l m : List Int}, Pw R l m → ∀ p ∈ (l.map Int.toNat).zip (m.map Int.toNat), R p.1 p.2
 | [], [], _, p, hp => by cases hp
 | a :: l, b :: m, h, p, hp => by
   simp only [List.map_cons, List.zip_cons_cons, List.mem_cons] at hp; rcases hp with rfl | hp
   ·exact h.1
   ·exact Pw.zip h.2 p hp
 | [], _ :: _, h, _, _ => h.elim
 | _ :: _, [], h, _, _ => h.elim
def AlF (S : Sto) : Nat → Nat → Nat → Prop
 | 0, _, _ => True
 | f + 1, x, y => shellC (fol S x) (cellF S x) = shellC (fol S y) (cellF S y) ∧ Pw (AlF S f) (cellF S x).args (cellF S y).args
theorem AlF.refl (S : Sto) : ∀ (f x : Nat), AlF S f x x
 | 0, _ => trivial
 | f + 1, x => ⟨rfl, Pw.refl (AlF.refl S f) _⟩
theorem AlF.symm {S : Sto} : ∀ {f x y : Nat}, AlF S f x y → AlF S f y x
 | 0, _, _, _ => trivial
 | f + 1, _, _, h => ⟨h.1.symm, Pw.symm (fun _ _ => AlF.symm) h.2⟩
theorem AlF.trans {S : Sto} : ∀ {f x y z : Nat}, AlF S f x y → AlF S f y z → AlF S f x z
 | 0, _, _, _, _, _ => trivial
 | f + 1, _, _, _, h, h' => ⟨h.1.trans h'.1, Pw.trans (R := AlF S f) (R' := AlF S f) (R'' := AlF S f) (fun _ _ _ a b => AlF.trans a b) h.2 h'.2⟩
theorem gFold_pw {S : Sto} {f : Nat} (hg : ∀ x y n, AlF S f x y → getG S f x n = getG S f y n) : ∀ {l m : List Int} (st : List Tm × Int × Nat), Pw (AlF S f) l m → l.foldl (gStep (getG S f)) st = m.foldl (gStep (getG S f)) st
 | [], [], st, _ => rfl
 | a :: l, b :: m, st, h => by
   have e : gStep (getG S f) st a = gStep (getG S f) st b := by unfold gStep; rw [hg _ _ _ h.1]
   rw [List.foldl_cons, List.foldl_cons, e]; exact gFold_pw hg _ h.2
 | [], _ :: _, _, h => h.elim
 | _ :: _, [], _, h => h.elim
theorem AlF.get {S : Sto} : ∀ (f x y n : Nat), AlF S f x y → getG S f x n = getG S f y n
 | 0, x, y, n, _ => rfl
 | f + 1, x, y, n, h => by
   rw [getG_succ, getG_succ, gFold_pw (fun x y n => AlF.get f x y n) _ h.2, h.1]
theorem hFold_pw {S : Sto} {f : Nat} (hg : ∀ x y, AlF S f x y → hgtF S f x = hgtF S f y) : ∀ {l m : List Int} (st : Option Nat), Pw (AlF S f) l m → l.foldl (hStep (hgtF S f)) st = m.foldl (hStep (hgtF S f)) st
 | [], [], st, _ => rfl
 | a :: l, b :: m, st, h => by
   have e : hStep (hgtF S f) st a = hStep (hgtF S f) st b := by unfold hStep; rw [hg _ _ h.1]
   rw [List.foldl_cons, List.foldl_cons, e]; exact hFold_pw hg _ h.2
 | [], _ :: _, _, h => h.elim
 | _ :: _, [], _, h => h.elim
theorem AlF.hgt {S : Sto} : ∀ (f x y : Nat), AlF S f x y → hgtF S f x = hgtF S f y
 | 0, x, y, _ => rfl
 | f + 1, x, y, h => by
   simp only [hgtF]; rw [hFold_pw (fun x y => AlF.hgt f x y) _ h.2]
/-! ### What was made one is alike -/
def Closed (S : Sto) (R : Nat → Nat → Prop) : Prop := ∀ a b, R a b → a < S.cells.length ∧ b < S.cells.length ∧ (fol S a = fol S b ∨ (cellF S a).k ≠ 1 ∧ (cellF S b).k ≠ 1 ∧ (cellF S a).k = (cellF S b).k ∧ (cellF S a).n = (cellF S b).n ∧ (cellF S a).s = (cellF S b).s ∧ Pw R (cellF S a).args (cellF S b).args)
theorem Ext.root_nv {S T : Sto} (h : Ext S T) (hS : Inv S) {x : Nat} (hx : x < S.cells.length) (hk : (cellF S x).k ≠ 1) : Tms.fol T x = Tms.fol S x ∧ cellF T x = cellF S x := by
 obtain ⟨hl, e, -⟩ := hS.root hx; have h1 := h.nvF hS hl (by rw [e]; exact hk); have h2 := h.folfol hS hx; rw [h1.1] at h2; refine ⟨h2.symm, ?_⟩; rw [← e, ← h1.2]; unfold cellF; rw [h1.1, h2]
theorem Closed.ext {S T : Sto} {R : Nat → Nat → Prop} (h : Closed S R) (hS : Inv S) (he : Ext S T) : Closed T R := by
 intro a b hr; obtain ⟨ha, hb, h'⟩ := h a b hr; refine ⟨by rw [he.len]; exact ha, by rw [he.len]; exact hb, ?_⟩; rcases h' with e | ⟨k1, k2, e⟩
 ·exact .inl (he.fol ha hb e)
 ·rw [(he.root_nv hS ha k1).2, (he.root_nv hS hb k2).2]
  exact .inr ⟨k1, k2, e⟩
/-! ### A way out -/
structure Sol (S : Sto) (E : Nat → Nat → Prop) : Prop where
 symm : ∀ a b, E a b → E b a
 trans : ∀ a b c, E a b → E b c → E a c
 fol : ∀ x, x < S.cells.length → E x (fol S x)
 cong : ∀ x y (hx : x < S.cells.length) (hy : y < S.cells.length), E x y → (S.cells[x]).k ≠ 1 → (S.cells[y]).k ≠ 1 → (S.cells[x]).k = (S.cells[y]).k ∧ (S.cells[x]).n = (S.cells[y]).n ∧ (S.cells[x]).s = (S.cells[y]).s ∧ Pw E (S.cells[x]).args (S.cells[y]).args
theorem Sol.bind {S : Sto} {E : Nat → Nat → Prop} (h : Sol S E) (hS : Inv S) {v t : Nat} (hv : v < S.cells.length) (ht : t < S.cells.length) (hvl : (S.cells[v]).lk = -1) (htl : (S.cells[t]).lk = -1) (hk : (S.cells[v]).k = 1) (hne : v ≠ t) (hE : E v t) : Sol (bindS S v t) E := by
 have hl := bind_len (t := t) hv
 have cell : ∀ x (hx : x < (bindS S v t).cells.length) (hx' : x < S.cells.length), ((bindS S v t).cells[x]).k ≠ 1 → x ≠ v ∧ (bindS S v t).cells[x] = S.cells[x] := by
  intro x hx hx' hkx
  have hxv : x ≠ v := fun e => by
   subst e; have h := bind_get (t := t) hv x; rw [if_pos rfl, List.getElem?_eq_getElem hx] at h; rw [Option.some.inj h] at hkx; exact hkx hk
  exact ⟨hxv, bind_at hv hx' hxv hx⟩
 refine ⟨h.symm, h.trans, fun x hx => ?_, fun x y hx hy hxy kx ky => ?_⟩
 ·rw [hl] at hx
  rw [fol_bind hS hv ht hvl htl hne hx]
  split
  ·rename_i e
   exact h.trans _ _ _ (by have := h.fol x hx; rw [e] at this; exact this) hE
  ·exact h.fol x hx
 ·obtain ⟨-, ex⟩ := cell x hx (by omega) kx
  obtain ⟨-, ey⟩ := cell y hy (by omega) ky; rw [ex] at kx ⊢; rw [ey] at ky ⊢; exact h.cong x y (by omega) (by omega) hxy kx ky
def ROut (rb : Nat) (D : Nat → Prop) (wv : Value) (w : World) (b : Nat) : Prop := ¬ D b ∧ b ≠ rb ∧ wv.ownBlock ≠ some b ∧ b < w.heap.size
structure RStep (rb : Nat) (D : Nat → Prop) (wv : Value) (w : World) (D' : Nat → Prop) (wv' : Value) (w' : World) : Prop where
 size : w.heap.size ≤ w'.heap.size
 blk : ∀ b, ROut rb D wv w b → ROut rb D' wv' w' b ∧ w'.heap[b]? = w.heap[b]?
theorem RStep.refl (rb : Nat) (D : Nat → Prop) (wv : Value) (w : World) : RStep rb D wv w D wv w := ⟨Nat.le_refl _, fun b h => ⟨h, rfl⟩⟩
theorem RStep.trans {rb : Nat} {D D' D'' : Nat → Prop} {wv wv' wv'' : Value} {w w' w'' : World} (h : RStep rb D wv w D' wv' w') (h' : RStep rb D' wv' w' D'' wv'' w'') : RStep rb D wv w D'' wv'' w'' :=
 ⟨Nat.le_trans h.size h'.size, fun b hb => ⟨(h'.blk b (h.blk b hb).1).1, (h'.blk b (h.blk b hb).1).2.trans (h.blk b hb).2⟩⟩
section
variable {w0 w w' : World} {p rb k : Nat} {sf : Bool} {S S' : Sto} {D D' : Nat → Prop} {W : List (Nat × Nat)} {wv : Value}
end
def hasB (r : Option Bool) : Bool := r == some true
def hasE (r : Option Bool) : Int := if r = none then 16 else 0
theorem drewN_below (w : World) (k : Nat) : Below w.heap.size w (w.drewN k) := ⟨rfl, by simp, rfl, by simp, fun b hb => by simp⟩
theorem bytes_ext {a b : ByteArray} (h : a.toList = b.toList) : a = b := by
 rw [ByteArray.toList_eq, ByteArray.toList_eq] at h; cases a; cases b
 congr 1
 exact Array.toList_inj.1 h
theorem IntSl.pick {w : World} {P : Nat → Prop} {q : Option Addr} {n c : Nat} {L : List Int} (h : IntSl w P (.slice q n c) L) (i : Nat) (hi : i < L.length) : ∃ b off, q = some ⟨b, off, none⟩ ∧ w.cell? ⟨b, off + i, none⟩ = some (.int .i64 L[i]) := by
 obtain ⟨a', c', e, -, -, h3⟩ := h; obtain ⟨b, off, e1, -, -, hc⟩ := h3 i hi; simp only [Value.slice.injEq] at e; exact ⟨b, off, by rw [e.1]; exact e1, hc⟩
theorem IntSl.room {w : World} {P : Nat → Prop} {q : Option Addr} {n c : Nat} {L : List Int} (h : IntSl w P (.slice q n c) L) : n ≤ c ∧ c ≤ maxLen := by
 obtain ⟨a', c', e, h1, h2, -⟩ := h; simp only [Value.slice.injEq] at e; obtain ⟨-, rfl, rfl⟩ := e; exact ⟨h1, h2⟩
theorem shell_k (x : Nat) (c : SCell) : (shellC x c).k = c.k := by
 unfold shellC
 split
 ·rename_i h; exact h.symm
 ·rfl
theorem inl1 {S : Sto} {a b : Nat} (ha : a < S.cells.length) (hb : b < S.cells.length) : InL S [(a, b)] := fun q hq => by simp only [List.mem_singleton] at hq; rw [hq]; exact ⟨ha, hb⟩
end Go.Proofs.Ytcbijikalfodnaa.Tms
namespace Go.Proofs.Ytcbijikalfodnaa.Tms
open Go Go.RowKit Go.Proofs.Ytcbijikalfodnaa.Reg Go.Proofs.Ytcbijikalfodnaa.Rws Go.Proofs.Ytcbijikalfodnaa.Maps
open Go.Proofs.Ytcbijikalfodnaa.Cod (Ins Cod sk check slotsN InsSl InsAt)
theorem ex_pattern {w0 : World} {p rb qb sn k : Nat} {lv : Value} {L : List Ins} (hL : L.length ≤ 20000) (hsn : sn ≤ 1000000) (hok : ∀ i ∈ L, i.ok = true) (hsl : ∀ i ∈ L, i.op = 2 ∨ i.op = 3 → 0 ≤ i.a ∧ i.a < sn) : ∀ N, PatC w0 p rb qb lv L sn k N
 | 0 => by
   intro a j S sl D w h hI hs hl hk hj; obtain ⟨i, l', q, -, -, -, rfl⟩ := sk_one hk; omega
 | N + 1 => ex_pat hL hsn hsl (ex_comp hok hsl (ex_pattern hL hsn hok hsl N))
def PairPost (w0 : World) (p rb qb : Nat) (lv : Value) (L : List Ins) (at_ : Nat) (sl : List Int) (k : Nat) (D : Nat → Prop) (w : World) (r : (Option Bool × Sto × Nat) × List (Nat × Nat)) (e : Ending) (w' : World) : Prop :=
 ∃ va vb A B, e = .returned (.tuple #[.agg #[va, vb], .bool (hasB r.1.1)]) ∧ A.length = B.length ∧ (A.map Int.toNat).zip (B.map Int.toNat) = r.2 ∧ (∀ a ∈ A, (0 : Int) ≤ a) ∧ (∀ b ∈ B, (0 : Int) ≤ b) ∧
   ∃ D', ExAt w0 p rb qb r.1.2.1 D' lv L at_ sl k w' ∧ EStep rb qb D w D' w' ∧ IntSl w' (fun b => w.heap.size ≤ b ∧ EOut rb qb D' w' b) va A ∧ IntSl w' (fun b => w.heap.size ≤ b ∧ EOut rb qb D' w' b) vb B
theorem info_pairs : (Try.prog.info? 122).map (fun i => (i.zero, i.size, i.bytes)) = some (some (.agg #[.slice none 0 0, .slice none 0 0]), 2, 48) := by kernel_rfl
theorem size_pairs : (Try.prog.info? 122).map (·.size) = some 2 := by kernel_rfl
theorem IntSl.estep {rb qb n : Nat} {D D' : Nat → Prop} {w w' : World} {v : Value} {L : List Int} (h : IntSl w (fun b => n ≤ b ∧ EOut rb qb D w b) v L) (hs : EStep rb qb D w D' w') : IntSl w' (fun b => n ≤ b ∧ EOut rb qb D' w' b) v L :=
 h.move (fun b hb _ => ⟨hb.1, (hs.blk b hb.2).1⟩) fun b hb _ => (hs.blk b hb.2).2
section
variable {w0 w w' : World} {p rb qb at_ k g : Nat} {S S' : Sto} {D D' : Nat → Prop} {lv : Value} {L : List Ins} {sl : List Int} {r : (Option Bool × Sto × Nat) × List (Nat × Nat)}
theorem pair_end (h : ExAt w0 p rb qb r.1.2.1 D' lv L at_ sl k w') (hs : EStep rb qb D w D' w') (hg : EOut rb qb D' w' g) (hgw : w.heap.size ≤ g) (hw0 : w0.heap.size ≤ w.heap.size) (hlv : ∀ b, slBlk lv = some b → b < w.heap.size) {va vb : Value} {A B : List Int} (hl : A.length = B.length) (hz : (A.map Int.toNat).zip (B.map Int.toNat) = r.2) (hA : ∀ a ∈ A, (0 : Int) ≤ a) (hB : ∀ b ∈ B, (0 : Int) ≤ b)
 (ha : IntSl w' (fun b => (w.heap.size ≤ b ∧ EOut rb qb D' w' b) ∧ b ≠ g) va A) (hb : IntSl w' (fun b => (w.heap.size ≤ b ∧ EOut rb qb D' w' b) ∧ b ≠ g) vb B) : PairPost w0 p rb qb lv L at_ sl k D w r (.returned (.tuple #[.agg #[va, vb], .bool (hasB r.1.1)])) (w'.setRow g #[va, vb]) := by
 have hn : slBlk lv ≠ some g := fun e => by have := hlv g e; omega
 refine ⟨va, vb, A, B, rfl, hl, hz, hA, hB, D', h.setOut hg (by omega) hn _, hs.setRow hgw _, ?_, ?_⟩
 ·exact ha.move (fun b hb _ => ⟨hb.1.1, hb.1.2.1, hb.1.2.2.1, hb.1.2.2.2.1, by simpa using hb.1.2.2.2.2⟩) fun b hb _ => setRow_other _ _ _ _ hb.2
 ·exact hb.move (fun b hb _ => ⟨hb.1.1, hb.1.2.1, hb.1.2.2.1, hb.1.2.2.2.1, by simpa using hb.1.2.2.2.2⟩) fun b hb _ => setRow_other _ _ _ _ hb.2
end
theorem ex_pair {w0 w : World} {p rb qb at_ k : Nat} {S : Sto} {D : Nat → Prop} {lv : Value} {L : List Ins} {sl : List Int} (h : ExAt w0 p rb qb S D lv L at_ sl k w) (hI : Inv S) (kk a b : Nat) (ha : a < S.cells.length) (hb : b < S.cells.length) :
 Calls Try.prog 58 #[.pointer (some ⟨rb, 0, none⟩), .int .i64 a, .int .i64 b] w (PairPost w0 p rb qb lv L at_ sl k D w (oneP S false kk a b)) := by
 obtain ⟨fa, ca, ga⟩ := hI.stoIn.fol ha; obtain ⟨fb, cb, gb⟩ := hI.stoIn.fol hb; obtain ⟨la, ea, ra⟩ := hI.root ha; obtain ⟨lb, eb, rb'⟩ := hI.root hb; have hbN := below_new w (.cells #[.slice none 0 0, .slice none 0 0] 122 (0, 0)); have hrN := heap_alloc_new w (.cells #[.slice none 0 0, .slice none 0 0] 122 (0, 0)); obtain ⟨h1, s1, f1⟩ := h.below hbN; have hsm := hI.small; have H1 := Lib.hid h1; have S1 := Lib.hid s1; have HRN := Lib.hid hrN; have HGN := Lib.hid (f1 w.heap.size (Nat.le_refl _) (by simp)); have HCA := Lib.hid ca; have HCB := Lib.hid cb; have HLV := Lib.hid (fun b e => (h.iF b e).1.2 : ∀ b, slBlk lv = some b → b < w.heap.size); have HLW := Lib.hid h.law.bel.size
 have hone : oneP S false kk a b = if fol S a = fol S b then ((some true, S, kk), []) else
  if (cellF S a).k = 1 then ((some true, bindS S (fol S a) (fol S b), kk), []) else
  if (cellF S b).k = 1 then ((some true, bindS S (fol S b) (fol S a), kk), []) else
  if (cellF S a).k ≠ (cellF S b).k ∨ (cellF S a).n ≠ (cellF S b).n ∨ (cellF S a).s ≠ (cellF S b).s ∨ (cellF S a).args.length ≠ (cellF S b).args.length then ((some false, S, kk), []) else
  ((some true, S, kk), ((cellF S a).args.map Int.toNat).zip ((cellF S b).args.map Int.toNat)) := by unfold oneP bindP; simp [argN]
 obtain ⟨R, hR⟩ : ∃ R, R = oneP S false kk a b := ⟨_, rfl⟩; rw [← hR] at hone ⊢; have HONE := Lib.hid hone; clear hbN hrN h1 s1 f1 ca cb hone h hR
 go_enter Try.func58, Try.ntmps58
 go_upto_region 1 with fail
 generalize hgg : w.heap.size = g at HRN HGN HLV HLW ⊢; have HGG := Lib.hid hgg; clear hgg; generalize w.alloc (.cells #[.slice none 0 0, .slice none 0 0] 122 (0, 0)) = w1 at *; obtain ⟨y0, y1, y2, y3, y11⟩ := row12 H1.out.row
 have hq : ∀ (x f : Nat), Ch S f x (fol S x) → ∀ u : World, u.heap = w1.heap → Calls Try.prog 62 #[.pointer (some ⟨p, 0, none⟩), .int .i64 x] u (fun e u' => e = .returned (.int .i64 (fol S x)) ∧ u' = u) := fun x f hc u hu =>
  (sto_Follow u (H1.out.law.sto.keep (by rw [hu]; exact Nat.le_refl _) fun b _ _ => by rw [hu]) f x _ hc).mono fun _ _ ⟨h, e⟩ => ⟨h, e.symm⟩
 have HQA := Lib.hid (hq a fa HCA.out); have HQB := Lib.hid (hq b fb HCB.out); clear hq
 go_quiet ((go_at_call 62; first | (with_reducible exact Calls.quiet_of_same (HQA.out _ rfl)) | (with_reducible exact Calls.quiet_of_same (HQB.out _ rfl))))
 clear y0 y1 y2 y3 y11 HQA HQB; have hdr : Below w1.heap.size w1 (w1.drewN nq) := drewN_below w1 nq; obtain ⟨h2, s2, -⟩ := H1.out.below hdr; have H2 := Lib.hid h2; have S2 := Lib.hid (S1.out.trans s2); have HRN2 := Lib.hid ((s2.blk g HGN.out).2.trans HRN.out); have HGN2 := Lib.hid (s2.blk g HGN.out).1; clear hdr h2 s2 H1 S1 HRN HGN; generalize w1.drewN nq = w2 at *; have hA : ∀ (hx : fol S a < S.cells.length), Ch S 0 (fol S a) (fol S a) := fun hx => ⟨hx, HCA.out.end_.2, rfl⟩
 have hB : ∀ (hx : fol S b < S.cells.length), Ch S 0 (fol S b) (fol S b) := fun hx => ⟨hx, HCB.out.end_.2, rfl⟩
 obtain ⟨CA, hCA⟩ : ∃ CA, CA = cellF S a := ⟨_, rfl⟩; obtain ⟨CB, hCB⟩ : ∃ CB, CB = cellF S b := ⟨_, rfl⟩; obtain ⟨A1, hA1⟩ : ∃ A1, A1 = fol S a := ⟨_, rfl⟩; obtain ⟨B1, hB1⟩ : ∃ B1, B1 = fol S b := ⟨_, rfl⟩; rw [← hA1, ← hCA] at ga; rw [← hB1, ← hCB] at gb; rw [← hCA, ← hCB, ← hA1, ← hB1] at HONE; have hcA : Ch S 0 A1 A1 := by rw [hA1]; exact hA la
 have hcB : Ch S 0 B1 B1 := by rw [hB1]; exact hB lb
 have okA := hI.cell _ _ ga; have okB := hI.cell _ _ gb; have la' : A1 < S.cells.length := by rw [hA1]; exact la
 have lb' : B1 < S.cells.length := by rw [hB1]; exact lb
 have ea' : S.cells[A1]'la' = CA := by
  obtain ⟨h, e⟩ := List.getElem?_eq_some_iff.1 ga; exact e
 have eb' : S.cells[B1]'lb' = CB := by
  obtain ⟨h, e⟩ := List.getElem?_eq_some_iff.1 gb; exact e
 have HGA := Lib.hid ga; have HGB := Lib.hid gb; have HEA := Lib.hid ea'; have HEB := Lib.hid eb'; have HCHA := Lib.hid hcA; have HCHB := Lib.hid hcB; have HOKA := Lib.hid okA; have HOKB := Lib.hid okB; have hAl := okA.len; have hBl := okB.len; rw [← hA1, ← hB1]; clear ga gb la lb ea eb ra rb' hA hB hCA hCB hA1 hB1 ea' eb' hcA hcB okA okB HCA HCB
 by_cases heq : A1 = B1
 ·have hr := HONE.out
  rw [if_pos heq] at hr; have HR := Lib.hid hr; have b1 : ((A1 : Int) == (B1 : Int)) = true := by simp; omega
  clear heq hr
  go_wp2_with (first
   | (with_reducible show wpList _ _ _ (⟨none, .store _ (.tmp 6) _, _, _, _, _⟩ :: _) _ _
      refine wpList_store_row rfl 122 (.tmp 6) _ rfl g #[.slice none 0 0, .slice none 0 0] rfl rfl _ _ HRN2.out size_pairs rfl (by simp [Value.oneCell']) ?_
      skip))
  have hz := setRow_heap w2 g _ (#[.slice none 0 0, .slice none 0 0] : Array Value) _ _ HRN2.out; refine bodyPost_ret (v := .tuple #[.agg #[.slice none 0 0, .slice none 0 0], .bool true]) (Push.results_cell_tmp Try.results58 _ _ g _ #[.slice none 0 0, .slice none 0 0] _ _ _ rfl rfl hz Try.underlying122 rfl (by kernel_rfl)) rfl ?_; have hp := pair_end (r := R) (g := g) (va := .slice none 0 0) (vb := .slice none 0 0) (A := []) (B := []) (by rw [HR.out]; exact H2.out) S2.out HGN2.out (by rw [HGG.out]; exact Nat.le_refl _) (by rw [HGG.out]; exact HLW.out) (by rw [HGG.out]; exact HLV.out) rfl (by rw [HR.out]; rfl) (fun x hx => (by cases hx)) (fun x hx => (by cases hx)) (IntSl.nil _ _) (IntSl.nil _ _); rw [HR.out] at hp; rw [HR.out]; exact hp
 have b1 : ((A1 : Int) == (B1 : Int)) = false := by simp; omega
 have hone := HONE.out; rw [if_neg heq] at hone; have HONE2 := Lib.hid hone; have HNE := Lib.hid heq; clear hone heq HONE; obtain ⟨y0, y1, y2, y3, y11⟩ := row12 H2.out.row
 go_wp2_with fail
 refine (sto_Look w2 H2.out.law.sto 0 A1 A1 CA HCHA.out HGA.out (by omega) (by omega)).mono ?_; rintro e3 w3 ⟨av, rfl, hav, hb3⟩; obtain ⟨qa, pa, rfl⟩ := hav.form; obtain ⟨h3, s3, n3⟩ := H2.out.below hb3; have hz2 := S2.out.size; have hg2 := HGN2.out.2.2.2; have hx3 : IntSl w3 (fun b => g + 1 ≤ b ∧ EOut rb qb D w3 b) (.slice qa CA.args.length pa) CA.args := hav.low.move (fun b hb _ => ⟨by have := hb.1; omega, n3 b hb.1 hb.2⟩) fun _ _ _ => rfl
 have hb4 := below_new w3 (.cells #[.int .i64 (shellC A1 CA).k, .int .i64 (shellC A1 CA).n, .string (shellC A1 CA).s, .slice none 0 0] 49 (0, 0)); have hr4 := heap_alloc_new w3 (.cells #[.int .i64 (shellC A1 CA).k, .int .i64 (shellC A1 CA).n, .string (shellC A1 CA).s, .slice none 0 0] 49 (0, 0)); obtain ⟨h4, s4, n4⟩ := h3.below hb4; have hx4 := hx3.estep s4; have hn4 := n4 w3.heap.size (Nat.le_refl _) (by simp); obtain ⟨y0, y1, y2, y3, y11⟩ := row12 h4.row; have H4 := Lib.hid h4; have S4 := Lib.hid ((S2.out.trans s3).trans s4); have HX4 := Lib.hid hx4; have HR4 := Lib.hid hr4; have HN4 := Lib.hid hn4; have HRN4 := Lib.hid (((s3.trans s4).blk g HGN2.out).2.trans HRN2.out); have HGN4 := Lib.hid ((s3.trans s4).blk g HGN2.out).1; clear hb3 h3 s3 n3 hx3 hb4 hr4 h4 s4 n4 hx4 hn4 hav H2 S2 HRN2 HGN2; have ska := shell_k A1 CA; have skb := shell_k B1 CB; have sna : CA.k ≠ 1 → (shellC A1 CA).n = CA.n ∧ (shellC A1 CA).s = CA.s := fun h => by unfold shellC; rw [if_neg h]; exact ⟨rfl, rfl⟩
 have snb : CB.k ≠ 1 → (shellC B1 CB).n = CB.n ∧ (shellC B1 CB).s = CB.s := fun h => by unfold shellC; rw [if_neg h]; exact ⟨rfl, rfl⟩
 generalize hsA : shellC A1 CA = sA at *; have SKA := Lib.hid ska; have SKB := Lib.hid skb; have SNA := Lib.hid sna; have SNB := Lib.hid snb; clear hsA ska skb sna snb; dsimp only
 go_upto_region 5 with fail
 generalize w3.alloc (.cells #[.int .i64 sA.k, .int .i64 sA.n, .string sA.s, .slice none 0 0] 49 (0, 0)) = W4 at *; generalize w3.heap.size = xr at *; obtain ⟨u0, u1, u2, u3⟩ := row4 HR4.out; rw [SKA.out] at u0
 by_cases ka : CA.k = 1
 ·have hr := HONE2.out
  rw [if_pos ka] at hr; have HR := Lib.hid hr; have k1 : (CA.k == 1) = true := by simpa using ka
  have hk : (S.cells[A1]'la').k = 1 := by rw [HEA.out]; exact ka
  have HK := Lib.hid hk; clear hr ka hk u1 u2 u3
  go_wp2_with fail
  refine (sto_Bind W4 H4.out.law.sto hI.stoOk 0 0 A1 B1 _ _ HCHA.out HCHB.out HK.out HNE.out).mono ?_; rintro e7 w7 ⟨rfl, hd7⟩; obtain ⟨D7, l7, t7⟩ := H4.out.law.did hd7; obtain ⟨h7, s7⟩ := H4.out.did l7 t7; have H7 := Lib.hid h7; have S7 := Lib.hid (S4.out.trans s7); have HRN7 := Lib.hid ((s7.blk g HGN4.out).2.trans HRN4.out); have HGN7 := Lib.hid (s7.blk g HGN4.out).1; clear hd7 l7 t7 h7 s7 u0 y0 y1 y2 y3 y11 H4 S4 HX4 HR4 HN4 HRN4 HGN4
  go_wp2_with (first
   | (with_reducible show wpList _ _ _ (⟨none, .store _ (.tmp 6) _, _, _, _, _⟩ :: _) _ _
      refine wpList_store_row rfl 122 (.tmp 6) _ rfl g #[.slice none 0 0, .slice none 0 0] rfl rfl _ _ HRN7.out size_pairs rfl (by simp [Value.oneCell']) ?_
      skip))
  have hz := setRow_heap w7 g _ (#[.slice none 0 0, .slice none 0 0] : Array Value) _ _ HRN7.out; refine bodyPost_ret (v := .tuple #[.agg #[.slice none 0 0, .slice none 0 0], .bool true]) (Push.results_cell_tmp Try.results58 _ _ g _ #[.slice none 0 0, .slice none 0 0] _ _ _ rfl rfl hz Try.underlying122 rfl (by kernel_rfl)) rfl ?_; have hp := pair_end (r := R) (g := g) (va := .slice none 0 0) (vb := .slice none 0 0) (A := []) (B := []) (by rw [HR.out]; exact H7.out) S7.out HGN7.out (by rw [HGG.out]; exact Nat.le_refl _) (by rw [HGG.out]; exact HLW.out) (by rw [HGG.out]; exact HLV.out) rfl (by rw [HR.out]; rfl) (fun x hx => (by cases hx)) (fun x hx => (by cases hx)) (IntSl.nil _ _) (IntSl.nil _ _); rw [HR.out] at hp; rw [HR.out]; exact hp
 have ka1 : (CA.k == 1) = false := by simpa using ka
 go_wp2_with fail
 refine (sto_Look W4 H4.out.law.sto 0 B1 B1 CB HCHB.out HGB.out (by omega) (by omega)).mono ?_; rintro e5 w5 ⟨bv, rfl, hbv, hb5⟩; obtain ⟨qb', pb, rfl⟩ := hbv.form; obtain ⟨h5, s5, n5⟩ := H4.out.below hb5; have hz4 := S4.out.size; have hg4 := HGN4.out.2.2.2; have hx5 := HX4.out.estep s5; have hy5 : IntSl w5 (fun b => g + 1 ≤ b ∧ EOut rb qb D w5 b) (.slice qb' CB.args.length pb) CB.args := hbv.low.move (fun b hb _ => ⟨by have := hb.1; omega, n5 b hb.1 hb.2⟩) fun _ _ _ => rfl
 generalize hsB : shellC B1 CB = sB at *; have hb6 := below_new w5 (.cells #[.int .i64 sB.k, .int .i64 sB.n, .string sB.s, .slice none 0 0] 49 (0, 0)); have hr6 := heap_alloc_new w5 (.cells #[.int .i64 sB.k, .int .i64 sB.n, .string sB.s, .slice none 0 0] 49 (0, 0)); obtain ⟨h6, s6, n6⟩ := h5.below hb6; have hx6 := hx5.estep s6; have hy6 := hy5.estep s6; have hrx := ((s5.trans s6).blk xr HN4.out).2.trans HR4.out; obtain ⟨u0, u1, u2, u3⟩ := row4 hrx; obtain ⟨v0, v1, v2, v3⟩ := row4 hr6; obtain ⟨y0, y1, y2, y3, y11⟩ := row12 h6.row; have H6 := Lib.hid h6; have S6 := Lib.hid ((S4.out.trans s5).trans s6); have HX6 := Lib.hid hx6; have HY6 := Lib.hid hy6; have HRN6 := Lib.hid (((s5.trans s6).blk g HGN4.out).2.trans HRN4.out); have HGN6 := Lib.hid ((s5.trans s6).blk g HGN4.out).1; clear hb5 h5 s5 n5 hx5 hy5 hsB hb6 hr6 h6 s6 n6 hx6 hy6 hrx hbv H4 S4 HX4 HR4 HN4 HRN4 HGN4; dsimp only
 go_upto_region 8 with fail
 generalize w5.alloc (.cells #[.int .i64 sB.k, .int .i64 sB.n, .string sB.s, .slice none 0 0] 49 (0, 0)) = W6 at *; generalize w5.heap.size = yr at *; rw [SKA.out] at u0; rw [SKB.out] at v0
 by_cases kb : CB.k = 1
 ·have hr := HONE2.out
  rw [if_neg ka, if_pos kb] at hr; have HR := Lib.hid hr; have k1 : (CB.k == 1) = true := by simpa using kb
  have hk : (S.cells[B1]'lb').k = 1 := by rw [HEB.out]; exact kb
  have HK := Lib.hid hk; have HKA := Lib.hid ka; clear hr ka kb hk u1 u2 u3 v1 v2 v3
  go_wp2_with fail
  refine (sto_Bind W6 H6.out.law.sto hI.stoOk 0 0 B1 A1 _ _ HCHB.out HCHA.out HK.out (Ne.symm HNE.out)).mono ?_; rintro e7 w7 ⟨rfl, hd7⟩; obtain ⟨D7, l7, t7⟩ := H6.out.law.did hd7; obtain ⟨h7, s7⟩ := H6.out.did l7 t7; have H7 := Lib.hid h7; have S7 := Lib.hid (S6.out.trans s7); have HRN7 := Lib.hid ((s7.blk g HGN6.out).2.trans HRN6.out); have HGN7 := Lib.hid (s7.blk g HGN6.out).1; clear hd7 l7 t7 h7 s7 u0 v0 y0 y1 y2 y3 y11 H6 S6 HX6 HY6 HRN6 HGN6
  go_wp2_with (first
   | (with_reducible show wpList _ _ _ (⟨none, .store _ (.tmp 6) _, _, _, _, _⟩ :: _) _ _
      refine wpList_store_row rfl 122 (.tmp 6) _ rfl g #[.slice none 0 0, .slice none 0 0] rfl rfl _ _ HRN7.out size_pairs rfl (by simp [Value.oneCell']) ?_
      skip))
  have hz := setRow_heap w7 g _ (#[.slice none 0 0, .slice none 0 0] : Array Value) _ _ HRN7.out; refine bodyPost_ret (v := .tuple #[.agg #[.slice none 0 0, .slice none 0 0], .bool true]) (Push.results_cell_tmp Try.results58 _ _ g _ #[.slice none 0 0, .slice none 0 0] _ _ _ rfl rfl hz Try.underlying122 rfl (by kernel_rfl)) rfl ?_; have hp := pair_end (r := R) (g := g) (va := .slice none 0 0) (vb := .slice none 0 0) (A := []) (B := []) (by rw [HR.out]; exact H7.out) S7.out HGN7.out (by rw [HGG.out]; exact Nat.le_refl _) (by rw [HGG.out]; exact HLW.out) (by rw [HGG.out]; exact HLV.out) rfl (by rw [HR.out]; rfl) (fun x hx => (by cases hx)) (fun x hx => (by cases hx)) (IntSl.nil _ _) (IntSl.nil _ _); rw [HR.out] at hp; rw [HR.out]; exact hp
 have kb1 : (CB.k == 1) = false := by simpa using kb
 rw [(SNA.out ka).1] at u1; rw [(SNA.out ka).2] at u2; rw [(SNB.out kb).1] at v1; rw [(SNB.out kb).2] at v2; have hone := HONE2.out; rw [if_neg ka, if_neg kb] at hone; have HKA := Lib.hid ka; have HKB := Lib.hid kb; clear ka kb u3 v3 y0 y1 y2 y3 y11
 by_cases e1 : CA.k = CB.k
 case neg =>
  have b2 : (CA.k != CB.k) = true := by simpa using e1
  rw [if_pos (.inl e1)] at hone; have HR := Lib.hid hone; clear hone HX6 HY6; clear e1
  go_wp2_with (first
   | (with_reducible show wpList _ _ _ (⟨none, .store _ (.tmp 6) _, _, _, _, _⟩ :: _) _ _
      refine wpList_store_row rfl 122 (.tmp 6) _ rfl g #[.slice none 0 0, .slice none 0 0] rfl rfl _ _ HRN6.out size_pairs rfl (by simp [Value.oneCell']) ?_
      skip))
  have hz := setRow_heap W6 g _ (#[.slice none 0 0, .slice none 0 0] : Array Value) _ _ HRN6.out; refine bodyPost_ret (v := .tuple #[.agg #[.slice none 0 0, .slice none 0 0], .bool false]) (Push.results_cell_tmp Try.results58 _ _ g _ #[.slice none 0 0, .slice none 0 0] _ _ _ rfl rfl hz Try.underlying122 rfl (by kernel_rfl)) rfl ?_; have hp := pair_end (r := R) (g := g) (va := .slice none 0 0) (vb := .slice none 0 0) (A := []) (B := []) (by rw [HR.out]; exact H6.out) S6.out HGN6.out (by rw [HGG.out]; exact Nat.le_refl _) (by rw [HGG.out]; exact HLW.out) (by rw [HGG.out]; exact HLV.out) rfl (by rw [HR.out]; rfl) (fun x hx => (by cases hx)) (fun x hx => (by cases hx)) (IntSl.nil _ _) (IntSl.nil _ _); rw [HR.out] at hp; rw [HR.out]; exact hp
 have b2 : (CA.k != CB.k) = false := by simpa using e1
 by_cases e2 : CA.n = CB.n
 case neg =>
  have b3 : (CA.n != CB.n) = true := by simpa using e2
  rw [if_pos (.inr (.inl e2))] at hone; have HR := Lib.hid hone; clear hone HX6 HY6; clear e1 e2
  go_wp2_with (first
   | (with_reducible show wpList _ _ _ (⟨none, .store _ (.tmp 6) _, _, _, _, _⟩ :: _) _ _
      refine wpList_store_row rfl 122 (.tmp 6) _ rfl g #[.slice none 0 0, .slice none 0 0] rfl rfl _ _ HRN6.out size_pairs rfl (by simp [Value.oneCell']) ?_
      skip))
  have hz := setRow_heap W6 g _ (#[.slice none 0 0, .slice none 0 0] : Array Value) _ _ HRN6.out; refine bodyPost_ret (v := .tuple #[.agg #[.slice none 0 0, .slice none 0 0], .bool false]) (Push.results_cell_tmp Try.results58 _ _ g _ #[.slice none 0 0, .slice none 0 0] _ _ _ rfl rfl hz Try.underlying122 rfl (by kernel_rfl)) rfl ?_; have hp := pair_end (r := R) (g := g) (va := .slice none 0 0) (vb := .slice none 0 0) (A := []) (B := []) (by rw [HR.out]; exact H6.out) S6.out HGN6.out (by rw [HGG.out]; exact Nat.le_refl _) (by rw [HGG.out]; exact HLW.out) (by rw [HGG.out]; exact HLV.out) rfl (by rw [HR.out]; rfl) (fun x hx => (by cases hx)) (fun x hx => (by cases hx)) (IntSl.nil _ _) (IntSl.nil _ _); rw [HR.out] at hp; rw [HR.out]; exact hp
 have b3 : (CA.n != CB.n) = false := by simpa using e2
 by_cases e3 : CA.s = CB.s
 case neg =>
  have b4 : (CA.s.toList == CB.s.toList) = false := by
   rw [beq_eq_false_iff_ne]; exact fun e => e3 (bytes_ext e)
  rw [if_pos (.inr (.inr (.inl e3)))] at hone; have HR := Lib.hid hone; clear hone HX6 HY6; clear e1 e2 e3
  go_wp2_with (first
   | (with_reducible show wpList _ _ _ (⟨none, .store _ (.tmp 6) _, _, _, _, _⟩ :: _) _ _
      refine wpList_store_row rfl 122 (.tmp 6) _ rfl g #[.slice none 0 0, .slice none 0 0] rfl rfl _ _ HRN6.out size_pairs rfl (by simp [Value.oneCell']) ?_
      skip))
  have hz := setRow_heap W6 g _ (#[.slice none 0 0, .slice none 0 0] : Array Value) _ _ HRN6.out; refine bodyPost_ret (v := .tuple #[.agg #[.slice none 0 0, .slice none 0 0], .bool false]) (Push.results_cell_tmp Try.results58 _ _ g _ #[.slice none 0 0, .slice none 0 0] _ _ _ rfl rfl hz Try.underlying122 rfl (by kernel_rfl)) rfl ?_; have hp := pair_end (r := R) (g := g) (va := .slice none 0 0) (vb := .slice none 0 0) (A := []) (B := []) (by rw [HR.out]; exact H6.out) S6.out HGN6.out (by rw [HGG.out]; exact Nat.le_refl _) (by rw [HGG.out]; exact HLW.out) (by rw [HGG.out]; exact HLV.out) rfl (by rw [HR.out]; rfl) (fun x hx => (by cases hx)) (fun x hx => (by cases hx)) (IntSl.nil _ _) (IntSl.nil _ _); rw [HR.out] at hp; rw [HR.out]; exact hp
 have b4 : (CA.s.toList == CB.s.toList) = true := by rw [e3]; exact beq_self_eq_true _
 by_cases e4 : CA.args.length = CB.args.length
 case neg =>
  have b5 : ((CA.args.length : Int) != (CB.args.length : Int)) = true := by simp; omega
  rw [if_pos (.inr (.inr (.inr e4)))] at hone; have HR := Lib.hid hone; clear hone HX6 HY6; clear e1 e2 e3 e4
  go_wp2_with (first
   | (with_reducible show wpList _ _ _ (⟨none, .store _ (.tmp 6) _, _, _, _, _⟩ :: _) _ _
      refine wpList_store_row rfl 122 (.tmp 6) _ rfl g #[.slice none 0 0, .slice none 0 0] rfl rfl _ _ HRN6.out size_pairs rfl (by simp [Value.oneCell']) ?_
      skip))
  have hz := setRow_heap W6 g _ (#[.slice none 0 0, .slice none 0 0] : Array Value) _ _ HRN6.out; refine bodyPost_ret (v := .tuple #[.agg #[.slice none 0 0, .slice none 0 0], .bool false]) (Push.results_cell_tmp Try.results58 _ _ g _ #[.slice none 0 0, .slice none 0 0] _ _ _ rfl rfl hz Try.underlying122 rfl (by kernel_rfl)) rfl ?_; have hp := pair_end (r := R) (g := g) (va := .slice none 0 0) (vb := .slice none 0 0) (A := []) (B := []) (by rw [HR.out]; exact H6.out) S6.out HGN6.out (by rw [HGG.out]; exact Nat.le_refl _) (by rw [HGG.out]; exact HLW.out) (by rw [HGG.out]; exact HLV.out) rfl (by rw [HR.out]; rfl) (fun x hx => (by cases hx)) (fun x hx => (by cases hx)) (IntSl.nil _ _) (IntSl.nil _ _); rw [HR.out] at hp; rw [HR.out]; exact hp
 have b5 : ((CA.args.length : Int) != (CB.args.length : Int)) = false := by simp; omega
 rw [if_neg (by rintro (e | e | e | e); exact e e1; exact e e2; exact e e3; exact e e4)] at hone; have HR := Lib.hid hone; have HE4 := Lib.hid e4; clear hone e1 e2 e3 e4
 go_wp2_with (first
  | (with_reducible show wpList _ _ _ (⟨none, .store _ (.tmp 6) _, _, _, _, _⟩ :: _) _ _
     refine wpList_store_row rfl 122 (.tmp 6) _ rfl g #[.slice qa CA.args.length pa, .slice qb' CB.args.length pb] rfl rfl _ _ HRN6.out size_pairs rfl (by simp [Value.oneCell']) ?_
     skip))
 have hz := setRow_heap W6 g _ (#[.slice qa CA.args.length pa, .slice qb' CB.args.length pb] : Array Value) _ _ HRN6.out; refine bodyPost_ret (v := .tuple #[.agg #[.slice qa CA.args.length pa, .slice qb' CB.args.length pb], .bool true]) (Push.results_cell_tmp Try.results58 _ _ g _ #[.slice qa CA.args.length pa, .slice qb' CB.args.length pb] _ _ _ rfl rfl hz Try.underlying122 rfl (by kernel_rfl)) rfl ?_; have hp := pair_end (r := R) (g := g) (va := .slice qa CA.args.length pa) (vb := .slice qb' CB.args.length pb) (A := CA.args) (B := CB.args) (by rw [HR.out]; exact H6.out) S6.out HGN6.out (by rw [HGG.out]; exact Nat.le_refl _) (by rw [HGG.out]; exact HLW.out) (by rw [HGG.out]; exact HLV.out) HE4.out (by rw [HR.out]) (fun x hx => (HOKA.out.args x hx).1) (fun x hx => (HOKB.out.args x hx).1) (HX6.out.move (fun b hb _ => ⟨⟨by rw [HGG.out]; omega, hb.2⟩, by omega⟩) fun _ _ _ => rfl) (HY6.out.move (fun b hb _ => ⟨⟨by rw [HGG.out]; omega, hb.2⟩, by omega⟩) fun _ _ _ => rfl); rw [HR.out] at hp; rw [HR.out]; exact hp
end Go.Proofs.Ytcbijikalfodnaa.Tms
namespace Go.Proofs.Ytcbijikalfodnaa.Tms
open Go Go.RowKit Go.Proofs.Ytcbijikalfodnaa.Reg Go.Proofs.Ytcbijikalfodnaa.Rws Go.Proofs.Ytcbijikalfodnaa.Maps
theorem uniP_fuel (sf : Bool) : ∀ (f f' k : Nat) (S : Sto) (l : List (Nat × Nat)), k ≤ f → k ≤ f' → uniP sf f k S l = uniP sf f' k S l
 | 0, 0, k, S, l, _, _ => rfl
 | 0, f' + 1, k, S, l, h, _ => by
   obtain rfl : k = 0 := by omega
   cases l with
   | nil => simp [uniP]
   | cons p l => simp [uniP]
 | f + 1, 0, k, S, l, _, h => by
   obtain rfl : k = 0 := by omega
   cases l with
   | nil => simp [uniP]
   | cons p l => simp [uniP]
 | f + 1, f' + 1, k, S, l, h, h' => by
   cases l with
   | nil => simp [uniP]
   | cons p l =>
     by_cases hk : k = 0
     ·simp [uniP, hk]
     ·have hle := oneP_le S sf (k - 1) p.1 p.2
      simp only [uniP, if_neg hk]; generalize hr : (oneP S sf (k - 1) p.1 p.2).1 = r at hle; obtain ⟨r1, r2, r3⟩ := r; dsimp only at hle; cases r1 with
      | none => rfl
      | some b =>
        cases b with
        | false => rfl
        | true => exact uniP_fuel sf f f' r3 r2 _ (by omega) (by omega)
noncomputable def uniK (sf : Bool) (k : Nat) (S : Sto) (l : List (Nat × Nat)) : Option Bool × Sto × Nat := uniP sf k k S l
theorem uniK_nil (sf : Bool) (k : Nat) (S : Sto) : uniK sf k S [] = (some true, S, k) := by unfold uniK; cases k <;> simp [uniP]
theorem uniK_zero (sf : Bool) (S : Sto) (p : Nat × Nat) (l : List (Nat × Nat)) : uniK sf 0 S (p :: l) = (none, S, 0) := by simp [uniK, uniP]
theorem uniK_cons (sf : Bool) (k : Nat) (S : Sto) (p : Nat × Nat) (l : List (Nat × Nat)) : uniK sf (k + 1) S (p :: l) = if (oneP S sf k p.1 p.2).1.1 = some true then uniK sf (oneP S sf k p.1 p.2).1.2.2 (oneP S sf k p.1 p.2).1.2.1 ((oneP S sf k p.1 p.2).2 ++ l) else (oneP S sf k p.1 p.2).1 := by
 have hle := oneP_le S sf k p.1 p.2; unfold uniK; simp only [uniP, if_neg (Nat.succ_ne_zero k), Nat.add_sub_cancel]; generalize hr : (oneP S sf k p.1 p.2).1 = r at hle; obtain ⟨r1, r2, r3⟩ := r; dsimp only at hle; cases r1 with
 | none => simp
 | some b =>
   cases b with
   | false => simp
   | true => simp only [if_pos]; exact uniP_fuel sf k r3 r3 r2 _ hle (Nat.le_refl _)
theorem uniK_app (sf : Bool) (m : List (Nat × Nat)) : ∀ (k : Nat) (S : Sto) (l : List (Nat × Nat)), uniK sf k S (l ++ m) = if (uniK sf k S l).1 = some true then uniK sf (uniK sf k S l).2.2 (uniK sf k S l).2.1 m else uniK sf k S l := by
 intro k
 induction k using Nat.strongRecOn with
 | _ k ih =>
   intro S l; cases l with
   | nil => rw [uniK_nil]; simp
   | cons p l =>
     cases k with
     | zero => rw [List.cons_append, uniK_zero, uniK_zero]; simp
     | succ k =>
       have hle := oneP_le S sf k p.1 p.2; rw [List.cons_append, uniK_cons, uniK_cons]
       by_cases h : (oneP S sf k p.1 p.2).1.1 = some true
       ·rw [if_pos h, if_pos h, ← List.append_assoc]
        exact ih _ (by omega) _ _
       ·rw [if_neg h, if_neg h, if_neg h]
theorem uniK_one (sf : Bool) (k : Nat) (S : Sto) (a b : Nat) : uniK sf (k + 1) S [(a, b)] = if (oneP S sf k a b).1.1 = some true then uniK sf (oneP S sf k a b).1.2.2 (oneP S sf k a b).1.2.1 (oneP S sf k a b).2 else (oneP S sf k a b).1 := by
 rw [uniK_cons, List.append_nil]
theorem uniK_le (sf : Bool) : ∀ (k : Nat) (S : Sto) (l : List (Nat × Nat)), (uniK sf k S l).2.2 ≤ k := by
 intro k
 induction k using Nat.strongRecOn with
 | _ k ih =>
   intro S l; cases l with
   | nil => rw [uniK_nil]; exact Nat.le_refl _
   | cons p l =>
     cases k with
     | zero => rw [uniK_zero]; exact Nat.le_refl _
     | succ k =>
       have hle := oneP_le S sf k p.1 p.2; rw [uniK_cons]
       split
       ·have := ih _ (show (oneP S sf k p.1 p.2).1.2.2 < k + 1 by omega) (oneP S sf k p.1 p.2).1.2.1 ((oneP S sf k p.1 p.2).2 ++ l)
        omega
       ·omega
end Go.Proofs.Ytcbijikalfodnaa.Tms
