/-
  Layer texts, glued and made small.
-/
import Derived.Test.YtcbijikalfodnaaG03
import Derived.Test.YtcbijikalfodnaaRows
import Derived.ProofKit
import Derived.OpenShut
import Derived.ShutString
import Derived.ChangeOld
import Derived.ChangeMaps5
import Derived.Deep.Slices
import Derived.Deep.Fields
import Derived.ChangeSame
set_option linter.unusedVariables false
set_option linter.unusedSimpArgs false
set_option maxRecDepth 100000
set_option maxHeartbeats 1600000
namespace Go.Proofs.Ytcbijikalfodnaa.Tms
open Go Go.RowKit Go.Proofs.Ytcbijikalfodnaa.Reg Go.Proofs.Ytcbijikalfodnaa.Rws
theorem walk_meas (V : Vis) (x0 : Value) (t : Tm) (v : Value) (P : Nat → Prop) (w : World) (hM : t.size ≤ 1000000000) (h : IsTm w P v t) (hP : ∀ b, P b → ¬ V.Mine [] w b) (hs : V.Sig [] w)
 (hcall : ∀ (D : List (Tm × Int)) (p : Tm × Int) (rest : List (Tm × Int)) (va : Value) (P' : Nat → Prop) (W : World), parts 1 t = D ++ p :: rest → V.Sig D W → IsTm W P' va p.1 → (∀ b, P' b → ¬ V.Mine D W b) → 1 ≤ p.2 → p.2 ≤ (t.size : Int) → Calls Try.prog 70 #[x0, va, .int .i64 p.2] W (Seen V D p W)) :
 Calls Try.prog 69 #[v, .func (.func 70) #[x0] #[]] w fun e w' => e = .returned (.tuple #[]) ∧ V.Sig (parts 1 t) w' ∧ Keeps w w' (V.Mine [] w) ∧ ∀ b, V.Mine (parts 1 t) w' b → V.Mine [] w b ∨ w.heap.size ≤ b := by
 have hl : IsTm w (fun b => b < w.heap.size ∧ ¬ V.Mine [] w b) v t := h.lt.imp (fun b h => ⟨h.2, hP b h.1⟩) fun _ _ _ => rfl
 clear h hP; have HC := Lib.hid hcall; clear hcall; obtain ⟨a, c, rfl⟩ := hl.form; have HST := Lib.hid (wk_start V t w (fun b => b < w.heap.size ∧ ¬ V.Mine [] w b) a c (fun b h => h.1) hl hs); clear hl hs
 go_enter Try.func69, Try.ntmps69
 go_wp2
 go_loopg [4] t.size (fun k v4 wr => WkRel V t w (fun b => b < w.heap.size ∧ ¬ V.Mine [] w b) k v4 wr)
 case atStart => exact HST.out
 case round =>
  obtain ⟨D, l, g, cap, n, rfl, inv, hp, hk, hkt, hd⟩ := hrel; clear HST; rcases nil_or_snoc l with rfl | ⟨l', p, rfl⟩
  ·obtain rfl : n = 0 := inv.len.symm
   have hD : parts 1 t = D := by simpa [partsS] using hp
   have INV := Lib.hid inv; have HD := Lib.hid hD; clear inv hp hD; go_wp2; refine ⟨rfl, .tuple #[], by simp [results, Try.results69, go_sem], rfl, ?_⟩; rw [HD.out]; exact ⟨INV.out.sig, INV.out.keeps, INV.out.mine⟩
  ·obtain ⟨m, rfl⟩ : ∃ m, n = m + 1 := ⟨l'.length, by rw [← inv.len]; simp⟩
   have hm : l'.length = m := by have := inv.len; simpa using this
   obtain ⟨own', hcap, hcm, cs, hR, hcell⟩ := inv.own.pop hm; obtain ⟨x, d⟩ := p; obtain ⟨xa, xc, rfl, hargs⟩ := hR; have x0c := hcell 0 (by decide); have x1c := hcell 1 (by decide); have x2c := hcell 2 (by decide); have x3c := hcell 3 (by decide); have x4c := hcell 4 (by decide); simp only [abKind, Nat.add_zero, List.getElem?_cons_zero, List.getElem?_cons_succ] at x0c x1c x2c x3c x4c; have xi : IsTm wr (fun b => b < w.heap.size ∧ ¬ V.Mine [] w b) (.agg #[.int .i64 x.k, .int .i64 x.n, .string x.s, .slice xa x.args.length xc]) x := ⟨xa, xc, rfl, ArgsFrom.imp (fun _ h => h.1) (fun _ _ _ => rfl) _ _ _ hargs⟩
   have hpx : parts 1 t = D ++ (x, d) :: (partsS (x.args.map fun y => (y, d + 1)) ++ partsS l'.reverse) := by
    rw [hp, List.reverse_append, List.reverse_singleton, List.singleton_append]; show D ++ (parts d x ++ _) = _; rw [parts_eq]
    simp
   have hdx := hd (x, d) (by simp); have hd' : ∀ p ∈ l', 1 ≤ p.2 ∧ p.2 + p.1.size ≤ (t.size : Int) + 1 := fun p hp => hd p (by simp [hp])
   have hsum : sumA l' + x.size ≤ gk := by have := sumA_app l' [(x, d)]; simp only [sumA] at this; omega
   have hxp := size_pos x; have hd1 : 1 ≤ d := hdx.1; have hd2 : d + x.size ≤ (t.size : Int) + 1 := hdx.2; have hbig := inv.big; have INV := Lib.hid inv; have OWN := Lib.hid own'; have XI := Lib.hid xi; have HM := Lib.hid hm; have HPX := Lib.hid hpx; have HD' := Lib.hid hd'; have hmb : m + 1 ≤ 1000000000 := by have := len_sumA l'; omega
   clear inv own' xi hm hk hp hpx hd hd' hdx hcell hargs; have hmm : ((m : Int) + 1 - 1) = m := by omega
   have hglt : g < wr.heap.size := (OWN.out.low g rfl).2; have hb5 := heap_alloc_new wr (.cells #[.int .i64 x.k, .int .i64 x.n, .string x.s, .slice xa x.args.length xc, .int .i64 d] 150 (0, 0)); have hba : Below wr.heap.size wr (wr.alloc (.cells #[.int .i64 x.k, .int .i64 x.n, .string x.s, .slice xa x.args.length xc, .int .i64 d] 150 (0, 0))) := (Below.refl _ _).alloc (Nat.le_refl _) _; have hbs : (wr.alloc (.cells #[.int .i64 x.k, .int .i64 x.n, .string x.s, .slice xa x.args.length xc, .int .i64 d] 150 (0, 0))).heap.size = wr.heap.size + 1 := by simp
   have H5 := Lib.hid hb5; have HBA := Lib.hid hba; have HBS := Lib.hid hbs; clear hb5 hba hbs; have hQm : ∀ (D : List (Tm × Int)) (W : World), (∀ b, V.Mine D W b → V.Mine [] w b ∨ w.heap.size ≤ b) → ∀ b, (b < w.heap.size ∧ ¬ V.Mine [] w b) → ¬ V.Mine D W b := fun D W h b hb hm => (h b hm).elim hb.2 fun hge => by omega
   have HQM := Lib.hid hQm; clear hQm
   go_wp2_with fail
   have hk1 := V.below INV.out.sig HBA.out; refine (HC.out D (x, d) _ _ _ _ HPX.out hk1.1 (XI.out.below HBA.out) (HQM.out _ _ fun b hb => INV.out.mine b (hk1.2 b hb)) hd1 (by show d ≤ (t.size : Int); omega)).mono ?_; rintro e4 w4 ⟨rfl, hs4, hk4, hm4⟩; have hns : ¬ V.Mine D (wr.alloc (.cells #[.int .i64 x.k, .int .i64 x.n, .string x.s, .slice xa x.args.length xc, .int .i64 d] 150 (0, 0))) wr.heap.size := fun h => by have := V.low INV.out.sig (hk1.2 _ h); omega
   have hng : ¬ V.Mine D (wr.alloc (.cells #[.int .i64 x.k, .int .i64 x.n, .string x.s, .slice xa x.args.length xc, .int .i64 d] 150 (0, 0))) g := fun h => INV.out.notg (hk1.2 _ h)
   have hz1 := HBS.out; have hb54 := (hk4.block wr.heap.size (by omega) hns).trans H5.out; have hs4' : wr.heap.size + 1 ≤ w4.heap.size := by have := hk4.size; omega
   have hmine4 : ∀ b, V.Mine (D ++ [(x, d)]) w4 b → V.Mine [] w b ∨ w.heap.size ≤ b := fun b hb => by
    rcases hm4 b hb with h | h
    ·exact INV.out.mine b (hk1.2 b h)
    ·exact .inr (by omega)
   have hkp : Keeps w w4 (V.Mine [] w) := INV.out.keeps.trans ((Keeps.of HBA.out (M := V.Mine D wr)).trans hk4 fun b hb => .inl (hk1.2 b hb)) INV.out.mine
   have hng4 : ¬ V.Mine (D ++ [(x, d)]) w4 g := fun h => by
    rcases hm4 g h with h | h
    ·exact hng h
    ·omega
   have hblk : ∀ b, b < wr.heap.size → ¬ V.Mine D wr b → w4.heap[b]? = wr.heap[b]? := fun b hb hn => (hk4.block b (by omega) fun h => hn (hk1.2 b h)).trans (HBA.out.block b hb)
   have hown4 := OWN.out.keep (w' := w4) (by omega) fun b hb h => hblk b hb (by
    rcases h with h | h
    ·exact HQM.out D wr INV.out.mine b h
    ·have : g = b := Option.some.inj (show some g = some b from h)
     rw [← this]; exact INV.out.notg)
   have hxi4 := XI.out.lt.imp (w' := w4) (P' := fun b => b < w.heap.size ∧ ¬ V.Mine [] w b) (fun b h => h.1) fun b h hb => hblk b hb (HQM.out D wr INV.out.mine b h.1)
   have hsx : sizeL x.args + 1 = x.size := by obtain ⟨k1, n1, s1, a1⟩ := x; simp [Tm.size, Tm.args]
   have hxs : x.args.length ≤ 1000000000 := by have := len_le x.args; omega
   have hgne : g ≠ wr.heap.size := by omega
   have f3 : w4.cell? ⟨wr.heap.size, 3, none⟩ = some (.slice xa x.args.length xc) := cell_of_row w4 _ 3 _ _ _ hb54
   have hin : WkInRel V w (fun b => b < w.heap.size ∧ ¬ V.Mine [] w b) (D ++ [(x, d)]) wr.heap.size x d xa xc l' (.slice (some ⟨g, 0, none⟩) m cap) (.int .i64 ((x.args.length : Int) - 1)) w4 :=
    ⟨x.args.length, g, cap, m, Nat.le_refl _, rfl, rfl, by rw [HM.out]; omega, by rw [List.drop_of_length_le (by omega)]; simpa using hown4, hkp, hs4, hmine4, hng4, hb54, hgne, ⟨hbig, by omega⟩, hxi4⟩
   have HIN := Lib.hid hin; have HSX := Lib.hid hsx; clear hin hsx hxi4 hown4 hblk hng4 hkp hmine4 hb54 hng hns hs4 hk4 hm4 hk1 x0c x1c x2c x3c x4c H5 HBA HBS OWN XI INV hz1; go_wp2; clear f3; generalize wr.heap.size = s5 at *
   go_loopw [4, 6] (fun v4 v6 w5 => WkInRel V w (fun b => b < w.heap.size ∧ ¬ V.Mine [] w b) (D ++ [(x, d)]) s5 x d xa xc l' v4 v6 w5) (fun _ v6 _ => (intOf v6 + 1).toNat)
   case atStart => exact HIN.out
   case round =>
    obtain ⟨q, g5, cap5, n5, hq, rfl, rfl, ci⟩ := hrel; clear HIN; rcases q with _ | r
    ·have CI := Lib.hid ci
     clear ci; go_wp2
     go_roundg (gk - 1)
     case measure => omega
     case rel =>
      have c := CI.out; have ho := c.own; rw [List.drop_zero] at ho; refine ⟨D ++ [(x, d)], l' ++ (x.args.map fun y => (y, d + 1)).reverse, g5, cap5, n5, rfl, ⟨?_, ho, c.keeps, by have := c.low; omega, c.sig, c.mine, c.notg⟩, ?_, ?_, by omega, ?_⟩
      ·have := c.len; simp; omega
      ·rw [HPX.out, List.reverse_append, List.reverse_reverse, partsS_app]
       simp
      ·rw [sumA_app, sumA_rev, sumA_map]
       have := HSX.out; omega
      ·intro p hp
       rcases List.mem_append.1 hp with hp | hp
       ·exact HD'.out p hp
       ·rw [List.mem_reverse] at hp
        obtain ⟨y, hy, rfl⟩ := List.mem_map.1 hp; have h1 := mem_sizeL hy; have h2 := HSX.out; exact ⟨by show 1 ≤ d + 1; omega, by show d + 1 + (y.size : Int) ≤ _; omega⟩
    ·have e8 : (((r + 1 : Nat) : Int) - 1) = r := by omega
     rw [e8]; clear e8; obtain ⟨xb, xo, rfl, -, xt⟩ := ci.xi.args.at r hq; obtain ⟨pa, pc, y0, y1, y2, y3, yri, -⟩ := xt.read; have f3 : wr.cell? ⟨s5, 3, none⟩ = some (.slice (some ⟨xb, xo, none⟩) x.args.length xc) := cell_of_row wr _ 3 _ _ _ ci.box; have f4 : wr.cell? ⟨s5, 4, none⟩ = some (.int .i64 d) := cell_of_row wr _ 4 _ _ _ ci.box; have hdr : x.args.drop r = x.args[r] :: x.args.drop (r + 1) := List.drop_eq_getElem_cons hq; have HDR := Lib.hid hdr; have CI := Lib.hid ci; have YRI := Lib.hid yri; have hri : (r : Int) < (x.args.length : Int) := by omega
     have hd3 : d ≤ 1000000000 := by have h4 : t.size ≤ 1000000000 := hM; omega
     clear hdr ci yri xt; generalize x.args[r] = xr at *; go_wp2; refine wp_region_rest (by kernel_rfl) ?_; have hdw : Below wr.heap.size wr wr.drew := (Below.refl _ _).drew; replace f3 := (hdw.cell (p := ⟨s5, 3, none⟩) CI.out.low.2).trans f3; replace f4 := (hdw.cell (p := ⟨s5, 4, none⟩) CI.out.low.2).trans f4; replace y0 := (hdw.cell (p := ⟨xb, xo + r * 4, none⟩) (World.block_lt_of_cell? _ _ y0)).trans y0; replace y1 := (hdw.cell (p := ⟨xb, xo + r * 4 + 1, none⟩) (World.block_lt_of_cell? _ _ y1)).trans y1; replace y2 := (hdw.cell (p := ⟨xb, xo + r * 4 + 2, none⟩) (World.block_lt_of_cell? _ _ y2)).trans y2; replace y3 := (hdw.cell (p := ⟨xb, xo + r * 4 + 3, none⟩) (World.block_lt_of_cell? _ _ y3)).trans y3; have hd0 : wr.drew.heap.size = wr.heap.size := rfl; generalize wr.drew = W0 at *; have HD0 := Lib.hid hd0; clear hd0; refine rest_chain 0 12 [(false, [0, 1, 2, 3, 4, 5, 6, 7, 8, 9, 10]), (true, [11])] [(false, [_, _, _, _, _, _, _, _, _, _, _]), (true, [_])] rfl (by kernel_rfl) (by kernel_rfl) rfl (by kernel_rfl) (by kernel_rfl) (.inr (by kernel_rfl)) ?_; refine chain_soft ?_; intro E hE; go_wp2; clear f3 f4 y0 y1 y2 y3; refine chain_one ?_; intro E hE; go_wp2; refine ⟨(Below.refl _ _).alloc (Nat.le_refl _) _, ?_⟩; refine chain_nil ?_; have hci := CI.out; have hbw : Below wr.heap.size wr (W0.alloc (.cells #[.int .i64 xr.k, .int .i64 xr.n, .string xr.s, .slice pa xr.args.length pc, .int .i64 (d + 1)] 150 (0, 0))) := hdw.alloc (by have := HD0.out; omega) _; have hrow := heap_alloc_new W0 (.cells #[.int .i64 xr.k, .int .i64 xr.n, .string xr.s, .slice pa xr.args.length pc, .int .i64 (d + 1)] 150 (0, 0)); have hu1 : (W0.alloc (.cells #[.int .i64 xr.k, .int .i64 xr.n, .string xr.s, .slice pa xr.args.length pc, .int .i64 (d + 1)] 150 (0, 0))).heap.size = W0.heap.size + 1 := by simp
     generalize W0.alloc (.cells #[.int .i64 xr.k, .int .i64 xr.n, .string xr.s, .slice pa xr.args.length pc, .int .i64 (d + 1)] 150 (0, 0)) = u at *; have hk1 := V.below hci.sig hbw; have hu2 : wr.heap.size + 1 ≤ u.heap.size := by have := HD0.out; omega
     clear hu1; have HOWN := Lib.hid (hci.own.below hbw); have HKP := Lib.hid (hci.keeps.trans (Keeps.of hbw (M := V.Mine (D ++ [(x, d)]) wr)) hci.mine); have HSIG := Lib.hid hk1.1; have HMINE : Hid (∀ b, V.Mine (D ++ [(x, d)]) u b → V.Mine [] w b ∨ w.heap.size ≤ b) := Lib.hid fun b hb => hci.mine b (hk1.2 b hb)
     have HNOTG : Hid (¬ V.Mine (D ++ [(x, d)]) u g5) := Lib.hid fun h => hci.notg (hk1.2 _ h)
     have HBX := Lib.hid ((hbw.block _ hci.low.2).trans hci.box); have HXI := Lib.hid (hci.xi.below hbw); have hlow := hci.low; have HNE := Lib.hid hci.ne; have HLEN := Lib.hid hci.len; have hg5 := (hci.own.low g5 rfl)
     have YR : Hid (abKind.R u (fun b => (b < w.heap.size ∧ ¬ V.Mine [] w b) ∧ Value.ownBlock (.slice (some ⟨g5, 0, none⟩) n5 cap5) ≠ some b) [.int .i64 xr.k, .int .i64 xr.n, .string xr.s, .slice pa xr.args.length pc, .int .i64 (d + 1)] (xr, d + 1)) := by
      obtain ⟨a', c', e, h'⟩ := YRI.out.below hbw
      simp at e
      obtain ⟨rfl, rfl⟩ := e; exact Lib.hid ⟨pa, pc, rfl, ArgsFrom.imp (fun b h => ⟨h, fun e => by have h2 : g5 = b := Option.some.inj (show some g5 = some b from e); have h1 := h.1; have := hg5.1; omega⟩) (fun _ _ _ => rfl) _ _ _ h'⟩
     have HROW := Lib.hid hrow
     have hlL : (l' ++ ((x.args.drop (r + 1)).map fun t => (t, d + 1)).reverse).length ≤ 1000000000 := by
      have h0 := HM.out; have h1 := len_sumA l'; have h2 := len_le x.args; have h3 := HSX.out; have h4 : t.size ≤ 1000000000 := hM
      simp
      omega
     have hbase : w.heap.size + 1 ≤ u.heap.size := by omega
     clear hci hbw hrow hk1 CI YRI; refine rest_lineL 12 14 [_, _] rfl (by kernel_rfl) (by decide) (by decide) (by kernel_rfl) ?_
     go_wp2_with (
      (with_reducible show wpList _ _ _ (⟨some 51, _, _, _, _, _⟩ :: _) _ _
       refine wpList_put (K := abKind) rfl (.tmp 39) (.tmp 50) _ rfl Try.underlying151 info_above rfl (w.heap.size + 1) _ _ _ _ (xr, d + 1) W0.heap.size _ _ _ rfl HOWN.out rfl HROW.out YR.out (by unfold maxLen; omega) (by omega) hbase ?_; intro v3 w3 hown hb3 hgr hv3; have el : (l' ++ ((x.args.drop (r + 1)).map fun t => (t, d + 1)).reverse ++ [(xr, d + 1)]) = l' ++ ((x.args.drop r).map fun t => (t, d + 1)).reverse := by rw [HDR.out, List.map_cons, List.reverse_cons, List.append_assoc]
       have en : (l' ++ ((x.args.drop r).map fun t => (t, d + 1)).reverse).length = n5 + 1 := by have h1 := HLEN.out; have h2 := HM.out; simp; omega
       rw [el] at hown
       obtain ⟨g9, c9, e9⟩ : ∃ g9 c9, v3 = .slice (some ⟨g9, 0, none⟩) (n5 + 1) c9 := by
        rcases hown.form with h | ⟨g9, c9, e9⟩
        ·exfalso; have := congrArg List.length h.2; rw [en] at this; simp at this
        ·exact ⟨g9, c9, by rw [e9, en]⟩
       subst e9
       have hnew : WkIn V w (fun b => b < w.heap.size ∧ ¬ V.Mine [] w b) (D ++ [(x, d)]) s5 x d (some ⟨xb, xo, none⟩) xc l' r g9 c9 (n5 + 1) w3 := by
        have hv9 : g9 = g5 ∨ u.heap.size ≤ g9 := by
         rcases hv3 g9 rfl with h | h
         ·exact .inl (Option.some.inj (show some g5 = some g9 from h)).symm
         ·exact .inr h
        have hne9 : g9 ≠ s5 := fun e => by
         rcases hv9 with h | h
         ·exact HNE.out (h.symm.trans e)
         ·omega
        have hg := hgr; have hk3 := V.keep HSIG.out hg.size fun b hb hm => hg.block b hb fun e => HNOTG.out (by have : b = g5 := Option.some.inj (show some b = some g5 from e); rw [← this]; exact hm)
        refine ⟨by have h1 := HLEN.out; omega, hown, ?_, hk3.1, fun b hb => HMINE.out b (hk3.2 b hb), fun hm => ?_, (hgr.block _ (by omega) (fun e => HNE.out (Option.some.inj (show some g5 = some s5 from e.symm)))).trans HBX.out, hne9, ⟨hlow.1, by have := hgr.size; omega⟩, ?_⟩
        ·exact HKP.out.trans (Keeps.grown (M := fun b => b = g5) hg fun b e => .inl (Option.some.inj (show some g5 = some b from e)).symm) fun b e => .inr (by rw [e]; omega)
        ·have hm' := hk3.2 _ hm
         rcases hv9 with h | h
         ·rw [h] at hm'; exact HNOTG.out hm'
         ·have := V.low HSIG.out hm'; omega
        ·exact HXI.out.imp (fun _ h => h) fun b h _ => hb3.block b (by have := h.1; omega)
       have HNEW := Lib.hid hnew; clear hnew hown hb3 hgr hv3 el en))
     refine then_rest (rest_end (by decide) ?_); go_wp2; go_roundw
     case rel => exact ⟨r, g9, c9, n5 + 1, by omega, rfl, rfl, HNEW.out⟩
     case measure => simp [intOf]
abbrev ms0 : Bool × Int × Int := (false, 0, 0)
theorem meas_len (st : Bool × Int × Int) : ∀ l, (meas st l).2.1 = st.2.1 + l.length := by
 intro l
 induction l generalizing st with
 | nil => simp [meas]
 | cons p l ih => simp only [meas, ih, List.length_cons]; omega
mutual
theorem parts_len : ∀ (d : Int) (t : Tm), (parts d t).length = t.size
 | d, .mk k n s a => by simp [parts, Tm.size, partsL_len (d + 1) a]
theorem partsL_len : ∀ (d : Int) (l : List Tm), (partsL d l).length = sizeL l
 | d, [] => by simp [partsL, sizeL]
 | d, t :: l => by simp [partsL, sizeL, parts_len d t, partsL_len d l]
end
abbrev msO (st : Bool × Int × Int) : Obj := .cells #[.bool st.1, .int .i64 st.2.1, .int .i64 st.2.2] 135 (0, 0)
def msVis (mb : Nat) : Vis where
 Sig := fun D W => W.heap[mb]? = some (msO (meas ms0 D))
 Mine := fun _ _ b => b = mb
 keep := fun {D W W'} h _ hk => ⟨(hk mb (Array.getElem?_eq_some_iff.1 h).1 rfl).trans h, fun _ h => h⟩
 low := fun {D W b} h e => by subst e; exact (Array.getElem?_eq_some_iff.1 h).1
theorem size_measure : (Try.prog.info? 135).map (·.size) = some 3 := by kernel_rfl
def msT (t : Tm) : Bool × Int × Int := meas ms0 (parts 1 t)
theorem msT_size (t : Tm) : (msT t).2.1 = t.size := by unfold msT; rw [meas_len, parts_len]; simp
abbrev msV (t : Tm) : Value := .agg #[.bool (msT t).1, .int .i64 (msT t).2.1, .int .i64 (msT t).2.2]
theorem args_le {D rest : List (Tm × Int)} {p : Tm × Int} : ∀ {t : Tm} {d : Int}, parts d t = D ++ p :: rest → p.1.args.length ≤ t.size := by
 have key : ∀ N, (∀ (t : Tm) (d : Int) (p : Tm × Int), t.size ≤ N → p ∈ parts d t → p.1.size ≤ t.size) := by
  intro N
  induction N with
  | zero => intro t d p h; have := size_pos t; omega
  | succ N ih =>
    intro t d p hN hp; rw [parts_eq] at hp; rcases List.mem_cons.1 hp with rfl | hp
    ·exact Nat.le_refl _
    ·have hs : ∀ (l : List (Tm × Int)), p ∈ partsS l → ∃ q ∈ l, p ∈ parts q.2 q.1 := by
      intro l
      induction l with
      | nil => intro h; simp [partsS] at h
      | cons q l ihl =>
        intro h; rcases List.mem_append.1 h with h | h
        ·exact ⟨q, List.mem_cons_self .., h⟩
        ·obtain ⟨q', h1, h2⟩ := ihl h
         exact ⟨q', List.mem_cons_of_mem _ h1, h2⟩
     obtain ⟨q, hq, hpq⟩ := hs _ hp; obtain ⟨y, hy, rfl⟩ := List.mem_map.1 hq; have h1 := mem_sizeL hy; have h2 : sizeL t.args + 1 = t.size := by obtain ⟨k1, n1, s1, a1⟩ := t; simp [Tm.size, Tm.args]
     have := ih y _ p (by omega) hpq; omega
 intro t d h; have := key _ t d p (Nat.le_refl _) (by rw [h]; simp); have h2 : sizeL p.1.args + 1 = p.1.size := by obtain ⟨⟨k1, n1, s1, a1⟩, q⟩ := p; simp [Tm.size, Tm.args]
 have := len_le p.1.args; omega
theorem tm_measured (t : Tm) (v : Value) (P : Nat → Prop) (w : World) (hM : t.size ≤ 1000000000) (h : IsTm w P v t) :
 Calls Try.prog 60 #[v] w fun e w' => e = .returned (msV t) ∧ Below w.heap.size w w' := by
 have hl := h.lt; clear h; obtain ⟨a, c, rfl⟩ := hl.form; have hw := walk_meas; have W := Lib.hid hw; have HL := Lib.hid hl; clear hw hl
 go_enter Try.func60, Try.ntmps60
 go_wp2_with fail
 have hb : Below w.heap.size w (((w.alloc (.cells #[.int .i64 t.k, .int .i64 t.n, .string t.s, .slice a t.args.length c] 49 (0, 0))).alloc (msO ms0)).alloc (msO ms0)) := (((Below.refl _ _).alloc (Nat.le_refl _) _).alloc (by simp) _).alloc (by simp; omega) _; have h2 : (((w.alloc (.cells #[.int .i64 t.k, .int .i64 t.n, .string t.s, .slice a t.args.length c] 49 (0, 0))).alloc (msO ms0)).alloc (msO ms0)).heap[w.heap.size + 1]? = some (msO ms0) := (by have := heap_alloc2_old (w.alloc (.cells #[.int .i64 t.k, .int .i64 t.n, .string t.s, .slice a t.args.length c] 49 (0, 0))) (msO ms0) (msO ms0); simpa using this); have h3 : (((w.alloc (.cells #[.int .i64 t.k, .int .i64 t.n, .string t.s, .slice a t.args.length c] 49 (0, 0))).alloc (msO ms0)).alloc (msO ms0)).heap[w.heap.size + 1 + 1]? = some (msO ms0) := by have := heap_alloc2_new (w.alloc (.cells #[.int .i64 t.k, .int .i64 t.n, .string t.s, .slice a t.args.length c] 49 (0, 0))) (msO ms0) (msO ms0); simpa using this
 have hz : (((w.alloc (.cells #[.int .i64 t.k, .int .i64 t.n, .string t.s, .slice a t.args.length c] 49 (0, 0))).alloc (msO ms0)).alloc (msO ms0)).heap.size = w.heap.size + 3 := by simp
 generalize ((w.alloc (.cells #[.int .i64 t.k, .int .i64 t.n, .string t.s, .slice a t.args.length c] 49 (0, 0))).alloc (msO ms0)).alloc (msO ms0) = W3 at *; refine (W.out (msVis (w.heap.size + 1 + 1)) _ t _ _ _ hM (HL.out.below hb) (fun b h e => by have h1 := h.2; have h2 : b = w.heap.size + 1 + 1 := e; omega) h3 ?_).mono ?_
 ·intro D p rest va P' W hp hs hi hq h1 h2
  obtain ⟨a', c', rfl⟩ := hi.form; have hl := parts_len 1 t; rw [hp] at hl; simp only [List.length_append, List.length_cons] at hl; have h0 : (meas ms0 D).2.1 = D.length := by rw [meas_len]; simp
  refine (tm_take (w.heap.size + 1 + 1) (meas ms0 D).1 (meas ms0 D).2.1 (meas ms0 D).2.2 p.2 p.1.k p.1.n p.1.s a' p.1.args.length c' W (by have := args_le hp; omega) (by omega) (by omega) hs).mono ?_; rintro e w' ⟨rfl, hh, hg⟩; exact ⟨rfl, by show w'.heap[w.heap.size + 1 + 1]? = some (msO (meas ms0 (D ++ [p]))); rw [meas_app]; exact hh, Keeps.grown hg fun b e => .inl (Option.some.inj e).symm, fun b h => .inl h⟩
 rintro e4 w4 ⟨rfl, hs4, hk4, -⟩; have hz4 : w4.heap[w.heap.size + 1]? = some (msO ms0) := (hk4.block _ (by omega) (fun e => by have h2 : w.heap.size + 1 = w.heap.size + 1 + 1 := e; omega)).trans h2; have hb4 : Below w.heap.size w w4 := hb.trans ⟨hk4.os, hk4.tape, hk4.output, hk4.size, fun b hb => hk4.block b (by omega) fun e => by have h2 : b = w.heap.size + 1 + 1 := e; omega⟩; have y0 : w4.cell? ⟨w.heap.size + 1 + 1, 0, none⟩ = some (.bool (msT t).1) := cell_of_row w4 _ 0 _ _ _ hs4; have y1 : w4.cell? ⟨w.heap.size + 1 + 1, 1, none⟩ = some (.int .i64 (msT t).2.1) := cell_of_row w4 _ 1 _ _ _ hs4; have y2 : w4.cell? ⟨w.heap.size + 1 + 1, 2, none⟩ = some (.int .i64 (msT t).2.2) := cell_of_row w4 _ 2 _ _ _ hs4; have HZ := Lib.hid hz4; have HB := Lib.hid hb4; clear hz4 hb4 hs4 hk4 h2 h3 hb hz W HL
 go_wp2_with (refine wpList_store_row rfl 135 (.tmp 2) (.tmp 7) rfl (w.heap.size + 1) #[.bool (msT t).1, .int .i64 (msT t).2.1, .int .i64 (msT t).2.2] rfl rfl _ _ HZ.out size_measure rfl (by simp [Value.oneCell']) ?_)
 have hz := setRow_heap w4 (w.heap.size + 1) _ (#[.bool (msT t).1, .int .i64 (msT t).2.1, .int .i64 (msT t).2.2] : Array Value) _ _ HZ.out; exact bodyPost_ret (v := msV t) (results_cell_row Try.results60 _ _ (w.heap.size + 1) _ _ _ _ rfl hz Try.underlying135 rfl (by kernel_rfl)) rfl ⟨rfl, HB.out.trans ⟨rfl, rfl, rfl, by simp, fun k hk => setRow_other _ _ _ _ (by omega)⟩⟩
theorem field_ms1 (w : World) (a b c : Value) : (Instr.field 135 (.agg #[a, b, c]) 1).run Try.prog w = .ok b w := by kernel_rfl
theorem tm_Size (t : Tm) (v : Value) (P : Nat → Prop) (w : World) (hM : t.size ≤ 1000000000) (h : IsTm w P v t) :
 Calls Try.prog 38 #[v] w fun e w' => e = .returned (.int .i64 t.size) ∧ Below w.heap.size w w' := by
 have hl := h.lt; clear h; obtain ⟨a, c, rfl⟩ := hl.form; have HL := Lib.hid hl; have hb := (Below.refl w.heap.size w).alloc (Nat.le_refl _) (.cells #[.int .i64 t.k, .int .i64 t.n, .string t.s, .slice a t.args.length c] 49 (0, 0)); have HB := Lib.hid hb; have hf := field_ms1; have hz := msT_size t; clear hl hb
 go_enter Try.func38, Try.ntmps38
 go_wp2_with (refine (tm_measured t _ _ _ hM (HL.out.below HB.out)).mono ?_; rintro e1 w1 ⟨rfl, hb1⟩; have HB1 := Lib.hid (HB.out.trans (hb1.mono (by simp))); clear hb1)
 go_ret; exact ⟨rfl, HB1.out⟩
def checkT (t : Tm) : Int := if (msT t).1 = true then 2 else if 2000 < (msT t).2.2 then 4 else if 20000 < (msT t).2.1 then 3 else 0
theorem tm_Check (t : Tm) (v : Value) (P : Nat → Prop) (w : World) (hM : t.size ≤ 1000000000) (h : IsTm w P v t) :
 Calls Try.prog 37 #[v] w fun e w' => e = .returned (.int .i64 (checkT t)) ∧ Below w.heap.size w w' := by
 have hl := h.lt; clear h; obtain ⟨a, c, rfl⟩ := hl.form; have HL := Lib.hid hl; have hb := (Below.refl w.heap.size w).alloc (Nat.le_refl _) (.cells #[.int .i64 t.k, .int .i64 t.n, .string t.s, .slice a t.args.length c] 49 (0, 0)); have HB := Lib.hid hb; clear hl hb; have hc : checkT t = if (msT t).1 = true then 2 else if 2000 < (msT t).2.2 then 4 else if 20000 < (msT t).2.1 then 3 else 0 := rfl
 have hm : ∀ W P, IsTm W P (.agg #[.int .i64 t.k, .int .i64 t.n, .string t.s, .slice a t.args.length c]) t → Calls Try.prog 60 #[.agg #[.int .i64 t.k, .int .i64 t.n, .string t.s, .slice a t.args.length c]] W fun e w' => e = .returned (.agg #[.bool (msT t).1, .int .i64 (msT t).2.1, .int .i64 (msT t).2.2]) ∧ Below W.heap.size W w' := fun W P h => tm_measured t _ _ _ hM h
 have HMS := Lib.hid hm; clear hm; generalize (msT t).1 = b at *; generalize (msT t).2.2 = dp at *; generalize (msT t).2.1 = sz at *; rw [hc]; clear hc; cases b
 all_goals try (by_cases h1 : 2000 < dp)
 all_goals try (by_cases h2 : 20000 < sz)
 all_goals
  go_enter Try.func37, Try.ntmps37
  go_wp2_with (refine (HMS.out _ _ (HL.out.below HB.out)).mono ?_; rintro e1 w1 ⟨rfl, hb1⟩; have HB1 := Lib.hid (HB.out.trans (hb1.mono (by simp))); clear hb1)
  go_ret; exact ⟨by simp [*], HB1.out.alloc HB1.out.size _⟩
def IntSl (w : World) (P : Nat → Prop) (v : Value) (L : List Int) : Prop := ∃ a cap, v = .slice a L.length cap ∧ L.length ≤ cap ∧ cap ≤ maxLen ∧ ∀ i (h : i < L.length), ∃ b off, a = some ⟨b, off, none⟩ ∧ P b ∧ b < w.heap.size ∧ w.cell? ⟨b, off + i, none⟩ = some (.int .i64 L[i])
theorem IntSl.below {w w' : World} {P : Nat → Prop} {v : Value} {L : List Int} (h : IntSl w P v L) (hb : Below w.heap.size w w') : IntSl w' P v L := by
 obtain ⟨a, cap, e, h1, h2, h3⟩ := h; refine ⟨a, cap, e, h1, h2, fun i hi => ?_⟩; obtain ⟨b, off, e, hp, hl, hc⟩ := h3 i hi; exact ⟨b, off, e, hp, by have := hb.size; omega, (hb.cell (p := ⟨b, off + i, none⟩) hl).trans hc⟩
theorem own_formX {α : Type} {K : Rws.Kind α} {w : World} {base : Nat} {P : Nat → Prop} {v : Value} {l : List α} (h : Own K w base P v l) : ∃ q c, v = .slice q l.length c := by
 rcases h.form with ⟨rfl, e⟩ | ⟨g, c, rfl⟩
 ·exact ⟨none, 0, by rw [e]; rfl⟩
 ·exact ⟨_, c, rfl⟩
def intKind : Rws.Kind Int where
 T := 2
 sz := 1
 R := fun w P cs a => cs = [.int .i64 a]
 pos := by decide
 len := by rintro w P cs a rfl; rfl
 one := by
  rintro w P cs a rfl v hv; simp only [List.mem_cons, List.not_mem_nil, or_false] at hv; subst hv; rfl
 mono := by rintro w w' P P' cs a hP hw rfl; rfl
 lt := by rintro w P cs a rfl; rfl
theorem info_int64 : (Try.prog.info? 2).map (fun i => (i.zero, i.size, i.bytes)) = some (some (.int .i64 0), 1, 8) := by kernel_rfl
def seenEs (i : Nat) : List Int → List MapEntry
 | [] => []
 | n :: l => ⟨.int .i64 n, .int .i64 i, i⟩ :: seenEs (i + 1) l
theorem seenEs_app : ∀ (i : Nat) (l m : List Int), seenEs i (l ++ m) = seenEs i l ++ seenEs (i + l.length) m
 | i, [], m => by simp [seenEs]
 | i, n :: l, m => by simp [seenEs, seenEs_app (i + 1) l m, Nat.add_comm, Nat.add_left_comm]
def place : List Int → Int → Option Nat
 | [], _ => none
 | x :: l, n => if n = x then some 0 else (place l n).map (· + 1)
theorem findNow_seen (k : IntKind) (n : Int) : ∀ (l : List Int) (i j : Nat), Instr.findNow (.int k) (.int .i64 n) (seenEs i l) j = some ((place l n).map fun p => (j + p, .int .i64 ((i + p : Nat) : Int)))
 | [], i, j => by simp [seenEs, Instr.findNow, place]
 | x :: l, i, j => by
   have ih := findNow_seen k n l (i + 1) (j + 1)
   by_cases h : n = x
   ·simp [seenEs, Instr.findNow, Instr.sameNow, place, h]
   ·simp only [seenEs, Instr.findNow, Instr.sameNow, if_true, place, if_neg h]
    have hb : (n == x) = false := by simpa using h
    rw [hb]; simp only []; rw [ih]; cases place l n <;> simp
    omega
def numL (l : List Int) (n : Int) : List Int := if (place l n).isSome then l else l ++ [n]
def numP (l : List Int) (n : Int) : Nat := (place l n).getD l.length
theorem place_lt : ∀ {l : List Int} {n : Int} {p : Nat}, place l n = some p → p < l.length
 | x :: l, n, p, h => by
   unfold place at h
   split at h
   ·simp only [Option.some.injEq] at h; subst h; simp
   ·cases hp : place l n with
    | none => rw [hp] at h; cases h
    | some q => rw [hp] at h; simp only [Option.map_some, Option.some.injEq] at h; subst h; have := place_lt hp; simp; omega
structure SeenRow (W : World) (base mb mm : Nat) (lv : Value) (L : List Int) : Prop where
 row : W.heap[mb]? = some (.cells #[lv, .map (some mm)] 117 (0, 0))
 map : ∃ es : Array MapEntry, W.heap[mm]? = some (.map es L.length) ∧ es.toList = seenEs 0 L
 own : Own intKind W base (fun _ => False) lv L
 ne : mb ≠ mm
 nb : lv.ownBlock ≠ some mb
 nm : lv.ownBlock ≠ some mm
 base : base ≤ W.heap.size
def SeenAt (base mb mm : Nat) (L : List Int) (W : World) : Prop := ∃ lv, SeenRow W base mb mm lv L
def SeenMine (mb mm : Nat) (W : World) (b : Nat) : Prop := b = mb ∨ b = mm ∨ ∃ lv, W.cell? ⟨mb, 0, none⟩ = some lv ∧ lv.ownBlock = some b
theorem SeenAt.keep {base mb mm : Nat} {L : List Int} {W W' : World} (h : SeenAt base mb mm L W) (hs : W.heap.size ≤ W'.heap.size) (hk : ∀ b, b < W.heap.size → SeenMine mb mm W b → W'.heap[b]? = W.heap[b]?) : SeenAt base mb mm L W' ∧ ∀ b, SeenMine mb mm W' b → SeenMine mb mm W b := by
 obtain ⟨lv, h⟩ := h; obtain ⟨es, h1, h2⟩ := h.map; have hmb := hk mb (Array.getElem?_eq_some_iff.1 h.row).1 (.inl rfl); have hmm := hk mm (Array.getElem?_eq_some_iff.1 h1).1 (.inr (.inl rfl)); have c0 : W.cell? ⟨mb, 0, none⟩ = some lv := cell_of_row W mb 0 _ _ _ h.row; have c0' : W'.cell? ⟨mb, 0, none⟩ = some lv := cell_of_row W' mb 0 _ _ _ (hmb.trans h.row); refine ⟨⟨lv, hmb.trans h.row, ⟨es, hmm.trans h1, h2⟩, h.own.keep hs fun b hb hp => ?_, h.ne, h.nb, h.nm, Nat.le_trans h.base hs⟩, fun b hb => ?_⟩
 ·rcases hp with hp | hp
  ·exact hp.elim
  ·exact hk b hb (.inr (.inr ⟨lv, c0, hp⟩))
 ·rcases hb with hb | hb | ⟨lv', hc, hb⟩
  ·exact .inl hb
  ·exact .inr (.inl hb)
  ·rw [c0'] at hc
   obtain rfl := Option.some.inj hc; exact .inr (.inr ⟨lv, c0, hb⟩)
theorem SeenAt.low {base mb mm : Nat} {L : List Int} {W : World} (h : SeenAt base mb mm L W) {b : Nat} (hb : SeenMine mb mm W b) : b < W.heap.size := by
 obtain ⟨lv, h⟩ := h; obtain ⟨es, h1, h2⟩ := h.map; have c0 : W.cell? ⟨mb, 0, none⟩ = some lv := cell_of_row W mb 0 _ _ _ h.row; rcases hb with rfl | rfl | ⟨lv', hc, hb⟩
 ·exact (Array.getElem?_eq_some_iff.1 h.row).1
 ·exact (Array.getElem?_eq_some_iff.1 h1).1
 ·rw [c0] at hc
  obtain rfl := Option.some.inj hc; exact (h.own.low b hb).2
theorem wpList_makeMap {P : Program} {w : World} {ops : Array Oper} {rest : List Oper} {o : Oper} {a : Act} {Q : Exit → Act → World → Prop} (hgd : o.guard = none) (t : TypeId) (ho : o.op = .makeMap t none)
 (hK : wpList P ops Q rest (a.put o.dst (.map (some w.heap.size))) (w.alloc (.map #[] 0))) : wpList P ops Q (o :: rest) a w := by
 refine wpList_plain hgd fun K hK' => ?_
 have hrun := run_makeMap (P := P) t w; unfold Oper.wp
 simp [execOp, ho, hrun, Result.andThen]
 exact hK' _ _ hK
theorem wpList_update_new {P : Program} {w : World} {ops : Array Oper} {rest : List Oper} {o : Oper} {a : Act} {Q : Exit → Act → World → Prop} (hgd : o.guard = none) (t : TypeId) (m k x : Operand) (ho : o.op = .mapUpdate t m k x) (kt et : TypeId) (d : TypeDesc)
 (h : P.underlying t = some (.map kt et)) (hk : P.underlying kt = some d) (hp : Maps.plainKey d = true) (b : Nat) (es : Array MapEntry) (c : Nat) (hm : a.eval m = .map (some b)) (hb : w.heap[b]? = some (.map es c)) (hf : Instr.findNow d (a.eval k) es.toList 0 = some none)
 (hK : ∀ w', w'.heap[b]? = some (.map (es.push ⟨a.eval k, a.eval x, c⟩) (c + 1)) → w.grownBy w' (some b) → wpList P ops Q rest (a.put o.dst undef) w') : wpList P ops Q (o :: rest) a w := by
 refine wpList_plain hgd fun K hK' => ?_
 have hrun := Maps.run_insert_new (P := P) w t kt et d h hk hp b (a.eval k) (a.eval x) es c hb hf; unfold Oper.wp
 simp [execOp, ho, hm, hrun, Result.andThen]
 exact hK' _ _ (hK _ (Maps.setObj'_at _ _ _ (Array.getElem?_eq_some_iff.1 hb).1) (Maps.setObj'_grown _ _ _))
def Told (base mb mm : Nat) (L : List Int) (w w' : World) : Prop :=
 SeenAt base mb mm L w' ∧ Keeps w w' (SeenMine mb mm w) ∧ ∀ b, SeenMine mb mm w' b → SeenMine mb mm w b ∨ w.heap.size ≤ b
theorem told_new {base mb mm : Nat} {L : List Int} {n : Int} {q : Option Addr} {c g9 c9 : Nat} {es : Array MapEntry} {w w2 w3 : World} (hs : SeenRow w base mb mm (.slice q L.length c) L) (hes : es.toList = seenEs 0 L)
 (hg2 : w.grownBy w2 (some mm)) (hm2 : w2.heap[mm]? = some (.map (es.push ⟨.int .i64 n, .int .i64 L.length, L.length⟩) (L.length + 1))) (hg3 : (w2.alloc (.cells #[.int .i64 n] 2 (0, 0))).grownBy w3 (Value.slice q L.length c).ownBlock)
 (hown3 : Own intKind w3 base (fun _ => False) (.slice (some ⟨g9, 0, none⟩) (L.length + 1) c9) (L ++ [n])) (hv3 : ∀ k, (Value.slice (some ⟨g9, 0, none⟩) (L.length + 1) c9).ownBlock = some k → (Value.slice q L.length c).ownBlock = some k ∨ (w2.alloc (.cells #[.int .i64 n] 2 (0, 0))).heap.size ≤ k) :
 (w3.cell? ⟨mb, 0, none⟩ = some (.slice q L.length c) ∧ w3.frozen? ⟨mb, 0, none⟩ = false) ∧ Told base mb mm (L ++ [n]) w (w3.setCell ⟨mb, 0, none⟩ (.slice (some ⟨g9, 0, none⟩) (L.length + 1) c9)) := by
 have hb2 : w.heap.size ≤ w2.heap.size := hg2.size; have hsz : (w2.alloc (.cells #[.int .i64 n] 2 (0, 0))).heap.size = w2.heap.size + 1 := by simp
 have hba : Below w2.heap.size w2 (w2.alloc (.cells #[.int .i64 n] 2 (0, 0))) := (Below.refl _ _).alloc (Nat.le_refl _) _; generalize w2.alloc (.cells #[.int .i64 n] 2 (0, 0)) = u at *; have hne : mb ≠ mm := hs.ne; have hmbw : mb < w.heap.size := (Array.getElem?_eq_some_iff.1 hs.row).1; have hr2 := (hg2.block mb hmbw (fun e => hne (Option.some.inj e))).trans hs.row; have hlt : mb < w2.heap.size := by omega
 have hltm : mm < w2.heap.size := (Array.getElem?_eq_some_iff.1 hm2).1; have hr3 := (hg3.block mb (by omega) (fun e => hs.nb e.symm)).trans ((hba.block mb hlt).trans hr2); have hm3 := (hg3.block mm (by omega) (fun e => hs.nm e.symm)).trans ((hba.block mm hltm).trans hm2)
 have hne3 : (Value.slice (some ⟨g9, 0, none⟩) (L.length + 1) c9).ownBlock ≠ some mb := fun e => by
  rcases hv3 mb e with h | h
  ·exact hs.nb h
  ·omega
 have hnm3 : (Value.slice (some ⟨g9, 0, none⟩) (L.length + 1) c9).ownBlock ≠ some mm := fun e => by
  rcases hv3 mm e with h | h
  ·exact hs.nm h
  ·omega
 have hrow4 := heap_setCell_same w3 mb 0 _ _ (.slice (some ⟨g9, 0, none⟩) (L.length + 1) c9) hr3; have hm4 := (Below.heap_setCell w3 ⟨mb, 0, none⟩ (.slice (some ⟨g9, 0, none⟩) (L.length + 1) c9) mm (fun e => hne e.symm)).trans hm3; have hsz4 : (w3.setCell ⟨mb, 0, none⟩ (.slice (some ⟨g9, 0, none⟩) (L.length + 1) c9)).heap.size = w3.heap.size := by simp [World.setCell]
 have hrr : (w3.setCell ⟨mb, 0, none⟩ (.slice (some ⟨g9, 0, none⟩) (L.length + 1) c9)).heap[mb]? = some (.cells #[.slice (some ⟨g9, 0, none⟩) (L.length + 1) c9, .map (some mm)] 117 (0, 0)) := by simpa using hrow4
 have hc4 : (w3.setCell ⟨mb, 0, none⟩ (.slice (some ⟨g9, 0, none⟩) (L.length + 1) c9)).cell? ⟨mb, 0, none⟩ = some (.slice (some ⟨g9, 0, none⟩) (L.length + 1) c9) := cell_of_row _ mb 0 _ _ _ hrr; have hs3 : w.heap.size ≤ w3.heap.size := by have := hg3.size; omega
 have hcw : w.cell? ⟨mb, 0, none⟩ = some (.slice q L.length c) := cell_of_row w mb 0 _ _ _ hs.row; refine ⟨⟨cell_of_row w3 mb 0 _ _ _ hr3, frozen_of_row w3 mb 0 _ _ hr3⟩, ⟨_, hrr, ⟨es.push ⟨.int .i64 n, .int .i64 L.length, L.length⟩, by rw [hm4]; simp, ?_⟩, hown3.keep (by omega) fun b hb hp => ?_, hne, hne3, hnm3, Nat.le_trans hs.base (by omega)⟩, ⟨?_, ?_, ?_, by omega, fun b hb hn => ?_⟩, fun b hb => ?_⟩
 ·rw [Array.toList_push, hes, seenEs_app]
  simp [seenEs]
 ·refine Below.heap_setCell _ _ _ _ fun e => ?_
  rcases hp with hp | hp
  ·exact hp
  ·exact hne3 (by rw [hp, e])
 ·exact hg3.os.trans (hba.os.trans hg2.os)
 ·exact hg3.tape.trans (hba.tape.trans hg2.tape)
 ·exact hg3.output.trans (hba.output.trans hg2.output)
 ·have h1 : b ≠ mb := fun e => hn (.inl e)
  have h2 : b ≠ mm := fun e => hn (.inr (.inl e))
  exact (Below.heap_setCell _ _ _ _ h1).trans ((hg3.block b (by omega) fun e => hn (.inr (.inr ⟨_, hcw, e.symm⟩))).trans ((hba.block b (by omega)).trans (hg2.block b hb fun e => h2 (Option.some.inj e))))
 ·rcases hb with hb | hb | ⟨lv', hc, hb⟩
  ·exact .inl (.inl hb)
  ·exact .inl (.inr (.inl hb))
  ·rw [hc4] at hc
   obtain rfl := Option.some.inj hc; rcases hv3 b hb with h | h
   ·exact .inl (.inr (.inr ⟨_, hcw, h⟩))
   ·exact .inr (by omega)
theorem seen_number (base mb mm : Nat) (L : List Int) (n : Int) (w : World) (hL : L.length ≤ 1000000000) (h : SeenAt base mb mm L w) :
 Calls Try.prog 51 #[.pointer (some ⟨mb, 0, none⟩), .int .i64 n] w fun e w' => e = .returned (.int .i64 (numP L n)) ∧ Told base mb mm (numL L n) w w' := by
 obtain ⟨lv, h⟩ := h; obtain ⟨es, hm, hes⟩ := h.map; have c0 : w.cell? ⟨mb, 0, none⟩ = some lv := cell_of_row w mb 0 _ _ _ h.row; have c1 : w.cell? ⟨mb, 1, none⟩ = some (.map (some mm)) := cell_of_row w mb 1 _ _ _ h.row; have hf := findNow_seen .i64 n L 0 0; rw [← hes] at hf; cases hp : place L n with
 | some p =>
   rw [hp] at hf; simp only [Option.map_some, Nat.zero_add] at hf; have hn : numP L n = p := by simp [numP, hp]
   have hl : numL L n = L := by simp [numL, hp]
   have HF := Lib.hid hf; have HM := Lib.hid hm; have HS : Hid (SeenAt base mb mm L w) := Lib.hid ⟨lv, h⟩; rw [hn, hl]; clear hf hm h hp hn hl hes
   go_enter Try.func51, Try.ntmps51
   go_wp2_with (refine Maps.wpList_lookup_now rfl 114 (.tmp 11) (.tmp 12) rfl _ _ _ Try.underlying114 Try.underlying2 rfl mm _ _ rfl HM.out _ HF.out (.int .i64 0) (fun _ => by kernel_rfl) ?_)
   go_ret; exact ⟨rfl, HS.out, Keeps.refl _ _, fun b h => .inl h⟩
 | none =>
   rw [hp] at hf; simp only [Option.map_none] at hf; have hn : numP L n = L.length := by simp [numP, hp]
   have hl : numL L n = L ++ [n] := by simp [numL, hp]
   have HF := Lib.hid hf; have HM := Lib.hid hm; have HS := Lib.hid h; have HES := Lib.hid hes; have C0 := Lib.hid c0; have z1 : w.frozen? ⟨mb, 0, none⟩ = false := frozen_of_row w mb 0 _ _ h.row; rw [hn, hl]; clear hf hm hp hn hl hes
   have hform : ∃ q c, lv = .slice q L.length c := by
    rcases h.own.form with ⟨rfl, e⟩ | ⟨g, c, rfl⟩
    ·exact ⟨none, 0, by rw [e]; rfl⟩
    ·exact ⟨_, c, rfl⟩
   obtain ⟨q, c, rfl⟩ := hform; clear h
   go_enter Try.func51, Try.ntmps51
   go_wp2_with (first
    | (refine Maps.wpList_lookup_now rfl 114 (.tmp 11) (.tmp 12) rfl _ _ _ Try.underlying114 Try.underlying2 rfl mm _ _ rfl HM.out _ HF.out (.int .i64 0) (fun _ => by kernel_rfl) ?_)
    | (refine wpList_update_new rfl 114 (.tmp 26) (.tmp 27) (.tmp 28) rfl _ _ _ Try.underlying114 Try.underlying2 rfl mm _ _ rfl HM.out HF.out ?_
       intro w2 hm2 hg2; have hs := HS.out; have hne : mb ≠ mm := hs.ne; have hr2 := (hg2.block mb (Array.getElem?_eq_some_iff.1 hs.row).1 (fun e => hne (Option.some.inj e))).trans hs.row
       have hown2 := hs.own.keep hg2.size fun b hb hp => hg2.block b hb fun e => by
        rcases hp with hp | hp
        ·exact hp
        ·exact hs.nm (by rw [hp]; exact e)
       have hb2 : w.heap.size ≤ w2.heap.size := hg2.size; have c0 : w2.cell? ⟨mb, 0, none⟩ = some (.slice q L.length c) := cell_of_row w2 mb 0 _ _ _ hr2; have HM2 := Lib.hid hm2; have HG2 := Lib.hid hg2; have HR2 := Lib.hid hr2; have HOWN2 := Lib.hid hown2; clear hm2 hg2 hr2 hown2 hs c1 z1)
    | (with_reducible show wpList _ _ _ (⟨some 36, _, _, _, _, _⟩ :: _) _ _
       have hba : Below w2.heap.size w2 (w2.alloc (.cells #[.int .i64 n] 2 (0, 0))) := (Below.refl _ _).alloc (Nat.le_refl _) _; have hrow := heap_alloc_new w2 (.cells #[.int .i64 n] 2 (0, 0)); have hsz : (w2.alloc (.cells #[.int .i64 n] 2 (0, 0))).heap.size = w2.heap.size + 1 := by simp
       have HBA := Lib.hid hba; have HSZ := Lib.hid hsz; refine wpList_put (K := intKind) rfl (.tmp 33) (.tmp 35) _ rfl Try.underlying115 info_int64 rfl base (fun _ => False) _ L [.int .i64 n] n w2.heap.size _ _ _ rfl (HOWN2.out.below hba) rfl hrow rfl (by unfold maxLen; omega) (by omega) (by have := HS.out.base; omega) ?_; intro v3 w3 hown3 hb3 hg3 hv3
       obtain ⟨g9, c9, rfl⟩ : ∃ g9 c9, v3 = .slice (some ⟨g9, 0, none⟩) (L.length + 1) c9 := by
        rcases hown3.form with h | ⟨g9, c9, e9⟩
        ·exfalso; have := congrArg List.length h.2; simp at this
        ·exact ⟨g9, c9, by rw [e9]; simp⟩
       obtain ⟨⟨c0, z1⟩, hfin⟩ := told_new HS.out HES.out HG2.out HM2.out hg3 hown3 hv3; have HFIN := Lib.hid hfin; clear hfin hown3 hb3 hg3 hv3 hba hrow hsz HBA HSZ))
   go_ret; exact ⟨rfl, HFIN.out⟩
def takeL (L : List Int) (p : Tm × Int) : List Int := if p.1.k = 1 then numL L p.1.n else L
def varsD (D : List (Tm × Int)) : List Int := D.foldl takeL []
def varsT (t : Tm) : List Int := varsD (parts 1 t)
theorem numL_len (L : List Int) (n : Int) : (numL L n).length ≤ L.length + 1 := by unfold numL; split <;> simp
theorem varsD_len (D : List (Tm × Int)) : (varsD D).length ≤ D.length := by
 have key : ∀ (D : List (Tm × Int)) (L : List Int), (D.foldl takeL L).length ≤ L.length + D.length := by
  intro D
  induction D with
  | nil => intro L; simp
  | cons p D ih =>
    intro L; rw [List.foldl_cons]; have h1 := ih (takeL L p); have h2 : (takeL L p).length ≤ L.length + 1 := by unfold takeL; split; exact numL_len _ _; omega
    simp only [List.length_cons]; omega
 have := key D []
 simpa [varsD] using this
theorem varsD_snoc (D : List (Tm × Int)) (p : Tm × Int) : varsD (D ++ [p]) = takeL (varsD D) p := by simp [varsD]
def seenVis (base mb mm : Nat) : Vis where
 Sig := fun D W => SeenAt base mb mm (varsD D) W
 Mine := fun _ W b => SeenMine mb mm W b
 keep := fun h hs hk => h.keep hs hk
 low := fun h hb => h.low hb
theorem vars_start (w : World) (o : Obj) : SeenAt w.heap.size (w.heap.size + 1 + 1) (w.heap.size + 1) [] (((w.alloc o).alloc (.map #[] 0)).alloc (.cells #[.slice none 0 0, .map (some (w.heap.size + 1))] 117 (0, 0))) := by
 refine ⟨.slice none 0 0, by have := heap_alloc2_new (w.alloc o) (.map #[] 0) (.cells #[.slice none 0 0, .map (some (w.heap.size + 1))] 117 (0, 0)); simpa using this, ⟨#[], by have := heap_alloc2_old (w.alloc o) (.map #[] 0) (.cells #[.slice none 0 0, .map (some (w.heap.size + 1))] 117 (0, 0)); simpa using this, rfl⟩, Own.nil _ _ _, by omega, by simp [Value.ownBlock], by simp [Value.ownBlock], by simp; omega⟩
theorem vars_new (w : World) (o : Obj) (b : Nat) (h : SeenMine (w.heap.size + 1 + 1) (w.heap.size + 1) (((w.alloc o).alloc (.map #[] 0)).alloc (.cells #[.slice none 0 0, .map (some (w.heap.size + 1))] 117 (0, 0))) b) : w.heap.size ≤ b := by
 have hr : (((w.alloc o).alloc (.map #[] 0)).alloc (.cells #[.slice none 0 0, .map (some (w.heap.size + 1))] 117 (0, 0))).heap[w.heap.size + 1 + 1]? = some (.cells #[.slice none 0 0, .map (some (w.heap.size + 1))] 117 (0, 0)) := by
  have := heap_alloc2_new (w.alloc o) (.map #[] 0) (.cells #[.slice none 0 0, .map (some (w.heap.size + 1))] 117 (0, 0)); simpa using this
 rcases h with h | h | ⟨lv, hc, h⟩
 ·omega
 ·omega
 ·rw [cell_of_row _ _ 0 _ _ _ hr] at hc
  obtain rfl := Option.some.inj hc; cases h
mutual
def renT (φ : Int → Int) : Tm → Tm
 | .mk k n s a => .mk k (if k = 1 then φ n else n) s (renL φ a)
def renL (φ : Int → Int) : List Tm → List Tm
 | [] => []
 | t :: l => renT φ t :: renL φ l
end
theorem renL_map (φ : Int → Int) : ∀ l, renL φ l = l.map (renT φ)
 | [] => by simp [renL]
 | t :: l => by simp [renL, renL_map φ l]
mutual
def flatT : Tm → List (Tm × Int)
 | .mk k n s a => (.mk k n s a, 0) :: flatL a
def flatL : List Tm → List (Tm × Int)
 | [] => []
 | t :: l => flatT t ++ flatL l
end
theorem flatT_eq (t : Tm) : flatT t = (t, 0) :: flatL t.args := by
 obtain ⟨k, n, s, a⟩ := t; rw [flatT]; rfl
theorem flatL_app : ∀ l m, flatL (l ++ m) = flatL l ++ flatL m
 | [], m => by simp [flatL]
 | t :: l, m => by simp [flatL, flatL_app l m]
mutual
theorem flatT_parts : ∀ (d : Int) (t : Tm), (flatT t).map Prod.fst = (parts d t).map Prod.fst
 | d, .mk k n s a => by simp [flatT, parts, flatL_parts (d + 1) a]
theorem flatL_parts : ∀ (d : Int) (l : List Tm), (flatL l).map Prod.fst = (partsL d l).map Prod.fst
 | d, [] => by simp [flatL, partsL]
 | d, t :: l => by simp [flatL, partsL, flatT_parts d t, flatL_parts d l]
end
theorem varsD_fst : ∀ {D E : List (Tm × Int)}, D.map Prod.fst = E.map Prod.fst → varsD D = varsD E := by
 have key : ∀ (D E : List (Tm × Int)) (L : List Int), D.map Prod.fst = E.map Prod.fst → D.foldl takeL L = E.foldl takeL L := by
  intro D
  induction D with
  | nil => intro E L h; cases E with
    | nil => rfl
    | cons _ _ => simp at h
  | cons p D ih =>
    intro E L h; cases E with
    | nil => simp at h
    | cons q E =>
      simp only [List.map_cons, List.cons.injEq] at h; have e : takeL L p = takeL L q := by unfold takeL; rw [h.1]
      rw [List.foldl_cons, List.foldl_cons, e]; exact ih E _ h.2
 exact fun {D E} h => key D E [] h
theorem varsT_flat (t : Tm) : varsD (flatT t) = varsT t := varsD_fst (flatT_parts 1 t)
mutual
theorem renT_id : ∀ t : Tm, renT (fun n => n) t = t
 | .mk k n s a => by rw [renT, renL_id a]; simp
theorem renL_id : ∀ l : List Tm, renL (fun n => n) l = l
 | [] => by simp [renL]
 | t :: l => by rw [renL, renT_id t, renL_id l]
end
theorem place_app : ∀ {L : List Int} {n : Int} {q : Nat} (M : List Int), place L n = some q → place (L ++ M) n = some q
 | x :: L, n, q, M, h => by
   simp only [List.cons_append]; unfold place at h ⊢
   split
   ·rename_i e; rw [if_pos e] at h; exact h
   ·rename_i e
    rw [if_neg e] at h; cases hp : place L n with
    | none => rw [hp] at h; cases h
    | some p => rw [hp] at h; rw [place_app M hp]; exact h
theorem place_new : ∀ {L : List Int} {n : Int}, place L n = none → place (L ++ [n]) n = some L.length
 | [], n, _ => by simp [place]
 | x :: L, n, h => by
   simp only [List.cons_append]; unfold place at h ⊢
   split
   ·rename_i e; rw [if_pos e] at h; cases h
   ·rename_i e
    rw [if_neg e] at h; cases hp : place L n with
    | none => rw [place_new hp]; rfl
    | some p => rw [hp] at h; cases h
theorem place_num (L : List Int) (n : Int) : place (numL L n) n = some (numP L n) := by
 unfold numL numP; cases hp : place L n with
 | none => simp [place_new hp]
 | some p => simp [hp]
theorem fold_app : ∀ (D : List (Tm × Int)) (L : List Int), ∃ M, D.foldl takeL L = L ++ M
 | [], L => ⟨[], by simp⟩
 | p :: D, L => by
   obtain ⟨M, h⟩ := fold_app D (takeL L p); rw [List.foldl_cons, h]; unfold takeL numL
   split
   ·split
    ·exact ⟨M, rfl⟩
    ·exact ⟨p.1.n :: M, by simp⟩
   ·exact ⟨M, rfl⟩
theorem place_final {D rest : List (Tm × Int)} {p : Tm × Int} (hk : p.1.k = 1) : place (varsD (D ++ p :: rest)) p.1.n = some (numP (varsD D) p.1.n) := by
 have h1 : varsD (D ++ p :: rest) = rest.foldl takeL (takeL (varsD D) p) := by simp [varsD]
 obtain ⟨M, h2⟩ := fold_app rest (takeL (varsD D) p); rw [h1, h2]; refine place_app M ?_; unfold takeL; rw [if_pos hk]; exact place_num _ _
def numT (t : Tm) : Tm := renT (fun n => (numP (varsT t) n : Int)) t
end Go.Proofs.Ytcbijikalfodnaa.Tms
namespace Go.Proofs.Ytcbijikalfodnaa.Tms
open Go Go.RowKit
structure Pt where
 k : Int
 n : Int
 s : ByteArray
 a : Nat
def Pt.cells (p : Pt) : List Value := [.int .i64 p.k, .int .i64 p.n, .string p.s, .int .u8 p.a]
def PtSl (w : World) (v : Value) (L : List Pt) : Prop :=
 ∃ a cap, v = .slice a L.length cap ∧ (∀ j (h : j < L.length), L[j].a < 256 ∧ ∃ b off, a = some ⟨b, off, none⟩ ∧ b < w.heap.size ∧ w.cell? ⟨b, off + j * 4, none⟩ = some (.int .i64 L[j].k) ∧ w.cell? ⟨b, off + j * 4 + 1, none⟩ = some (.int .i64 L[j].n) ∧
   w.cell? ⟨b, off + j * 4 + 2, none⟩ = some (.string L[j].s) ∧ w.cell? ⟨b, off + j * 4 + 3, none⟩ = some (.int .u8 L[j].a)) ∧ L.length ≤ cap ∧ cap ≤ maxLen
theorem PtSl.below {w w' : World} {v : Value} {L : List Pt} (h : PtSl w v L) (hb : Below w.heap.size w w') : PtSl w' v L := by
 obtain ⟨a, cap, e, h, hc, hm⟩ := h; refine ⟨a, cap, e, fun j hj => ?_, hc, hm⟩; obtain ⟨ha, b, off, e, hlt, h0, h1, h2, h3⟩ := h j hj; have c := fun o => hb.cell (p := ⟨b, o, none⟩) hlt
 exact ⟨ha, b, off, e, Nat.lt_of_lt_of_le hlt hb.size, (c _).trans h0, (c _).trans h1, (c _).trans h2, (c _).trans h3⟩
theorem PtSl.form {w : World} {v : Value} {L : List Pt} (h : PtSl w v L) : ∃ a cap, v = .slice a L.length cap ∧ L.length ≤ cap ∧ cap ≤ maxLen := by
 obtain ⟨a, cap, e, -, hc, hm⟩ := h; exact ⟨a, cap, e, hc, hm⟩
theorem PtSl.drop {w : World} {b off cap k : Nat} {L : List Pt} (h : PtSl w (.slice (some ⟨b, off, none⟩) L.length cap) L) (hk : k ≤ L.length) :
 PtSl w (.slice (some ⟨b, off + k * 4, none⟩) (L.length - k) (cap - k)) (L.drop k) := by
 obtain ⟨a', cap', e, h, hc, hm⟩ := h; simp only [Value.slice.injEq, true_and] at e; obtain ⟨rfl, rfl⟩ := e; refine ⟨_, _, by rw [List.length_drop], fun j hj => ?_, by simp; omega, by omega⟩; simp only [List.length_drop] at hj; obtain ⟨ha, b', off', e, hlt, h0, h1, h2, h3⟩ := h (k + j) (by omega); simp only [Option.some.injEq, Addr.mk.injEq, and_true] at e; obtain ⟨rfl, rfl⟩ := e; rw [List.getElem_drop]; rw [Nat.add_mul, ← Nat.add_assoc] at h0 h1 h2 h3; exact ⟨ha, b, _, rfl, hlt, h0, h1, h2, h3⟩
theorem PtSl.none_ {w : World} {a : Option Addr} {cap : Nat} (hm : cap ≤ maxLen) : PtSl w (.slice a 0 cap) [] := ⟨a, cap, rfl, by simp, by simp, hm⟩
theorem PtSl.head {w : World} {a : Option Addr} {cap : Nat} {p : Pt} {L : List Pt} (h : PtSl w (.slice a (L.length + 1) cap) (p :: L)) : ∃ b off, a = some ⟨b, off, none⟩ ∧ p.a < 256 ∧ b < w.heap.size ∧ L.length + 1 ≤ cap ∧ cap ≤ maxLen ∧
 w.cell? ⟨b, off, none⟩ = some (.int .i64 p.k) ∧ w.cell? ⟨b, off + 1, none⟩ = some (.int .i64 p.n) ∧ w.cell? ⟨b, off + 2, none⟩ = some (.string p.s) ∧ w.cell? ⟨b, off + 3, none⟩ = some (.int .u8 p.a) := by
 obtain ⟨a', cap', e, h, hc, hm⟩ := h; obtain ⟨rfl, -, rfl⟩ := Value.slice.inj e; obtain ⟨ha, b, off, e, hlt, h0, h1, h2, h3⟩ := h 0 (by simp); simp only [Nat.zero_mul, Nat.add_zero, List.getElem_cons_zero] at h0 h1 h2 h3 ha; exact ⟨b, off, e, ha, hlt, hc, hm, h0, h1, h2, h3⟩
def ofTo (g : List Pt → Tm × Nat) (l : List Pt) : Nat → List Tm × Nat
 | 0 => ([], 0)
 | k + 1 => ((ofTo g l k).1 ++ [(g (l.drop (ofTo g l k).2)).1], (ofTo g l k).2 + (g (l.drop (ofTo g l k).2)).2)
def atomA : Tm := atomT ⟨#[97]⟩
def ofN : Nat → List Pt → Tm × Nat
 | 0, _ => (atomA, 0)
 | _ + 1, [] => (atomA, 0)
 | f + 1, p :: l => (.mk p.k p.n p.s (ofTo (ofN f) l (p.a % 8)).1, (ofTo (ofN f) l (p.a % 8)).2 + 1)
theorem ofTo_len (g : List Pt → Tm × Nat) (l : List Pt) : ∀ k, (ofTo g l k).1.length = k
 | 0 => rfl
 | k + 1 => by simp [ofTo, ofTo_len g l k]
theorem ofTo_le {g : List Pt → Tm × Nat} (hg : ∀ l, (g l).2 ≤ l.length) (l : List Pt) : ∀ k, (ofTo g l k).2 ≤ l.length
 | 0 => by simp [ofTo]
 | k + 1 => by have h1 := ofTo_le hg l k; have h2 := hg (l.drop (ofTo g l k).2); simp only [List.length_drop] at h2; simp only [ofTo]; omega
theorem ofN_le : ∀ (f : Nat) (l : List Pt), (ofN f l).2 ≤ l.length
 | 0, l => by simp [ofN]
 | f + 1, [] => by simp [ofN]
 | f + 1, p :: l => by have := ofTo_le (ofN_le f) l (p.a % 8); simp only [ofN, List.length_cons]; omega
theorem sizeL_app : ∀ (l m : List Tm), sizeL (l ++ m) = sizeL l + sizeL m
 | [], m => by simp [sizeL]
 | t :: l, m => by simp only [List.cons_append, sizeL, sizeL_app l m]; omega
theorem ofTo_size {g : List Pt → Tm × Nat} (hg : ∀ l, (g l).1.size ≤ 1 + 7 * (g l).2) (l : List Pt) : ∀ k, sizeL (ofTo g l k).1 ≤ k + 7 * (ofTo g l k).2
 | 0 => by simp [ofTo, sizeL]
 | k + 1 => by have h1 := ofTo_size hg l k; have h2 := hg (l.drop (ofTo g l k).2); simp only [ofTo, sizeL_app, sizeL]; omega
theorem ofN_size : ∀ (f : Nat) (l : List Pt), (ofN f l).1.size ≤ 1 + 7 * (ofN f l).2
 | 0, l => by simp [ofN, atomA, atomT, Tm.size, sizeL]
 | f + 1, [] => by simp [ofN, atomA, atomT, Tm.size, sizeL]
 | f + 1, p :: l => by have := ofTo_size (ofN_size f) l (p.a % 8); simp only [ofN, Tm.size]; omega
theorem ofN_small (f : Nat) (l : List Pt) : (ofN f l).1.size ≤ 1 + 7 * l.length := by have h1 := ofN_size f l; have h2 := ofN_le f l; omega
end Go.Proofs.Ytcbijikalfodnaa.Tms
namespace Go.Proofs.Ytcbijikalfodnaa.Tms
open Go Go.ChangeMaps Go.ChangeShapes Go.WideShapes Go.ChangeAt Go.RowKit Go.Deep
section
variable {H : Type} {enc : TypeId × Value → H} {P : Program} {w : World} {base : Nat} {spare : Nat → Bool} {held : Bool}
theorem field_of {t : TypeId} {fs : Array Field} {fuel : Nat} {cs : List Value} {x : DataW H × List MemPlace} (ht : P.underlying t = some (.struct fs)) (hone : oneCellFields P fs = true) (hC : P.cellsOf t = fs.size)
 (h : DataW.trod enc P w base spare held fuel t cs = some x) : cs.length = fs.size ∧ ∀ (j : Nat) (f : Field), fs[j]? = some f → ∃ v n y, cs[j]? = some v ∧ DataW.trod enc P w base spare held n f.type [v] = some y := by
 obtain ⟨xs, n, _, _, hl, hxl, hf⟩ := DataW.trod_struct ht h; rw [hC] at hl; refine ⟨hl, fun j f hj => ?_⟩; obtain ⟨ho, hk⟩ := hone_of hone j f hj; have hjl : j < fs.size := (Array.getElem?_eq_some_iff.1 hj).1; have h1 := hf j f hj
 have hd : (cs.drop f.offset).take (P.cellsOf f.type) = [cs[j]'(by omega)] := by
  rw [ho, hk, List.drop_eq_getElem_cons (by omega)]; rfl
 rw [hd, List.getElem?_eq_getElem (by omega)] at h1; exact ⟨cs[j]'(by omega), n, _, List.getElem?_eq_getElem (by omega), h1⟩
theorem list4 {α : Type} {l : List α} {a b c d : α} (hl : l.length = 4) (h0 : l[0]? = some a) (h1 : l[1]? = some b) (h2 : l[2]? = some c) (h3 : l[3]? = some d) : l = [a, b, c, d] := by
 match l, hl with
 | [x0, x1, x2, x3], _ => simp at h0 h1 h2 h3; simp [h0, h1, h2, h3]
end
theorem wf_u8 {z : Int} (h : (Lit.int .u8 z).wf = true) : 0 ≤ z ∧ z < 256 := by
 simp only [Lit.wf, IntKind.min, IntKind.max, IntKind.signed, IntKind.bits, Bool.false_eq_true, if_false, Bool.and_eq_true, decide_eq_true_eq] at h; omega
section
variable {H : Type} {enc : TypeId × Value → H} {w : World} {base : Nat} {spare : Nat → Bool} {held : Bool}
theorem pt_of {fuel : Nat} {cs : List Value} {x : DataW H × List MemPlace} (h : DataW.trod enc Try.prog w base spare held fuel 133 cs = some x) : ∃ p : Pt, cs = p.cells ∧ p.a < 256 ∧ (Lit.int .i64 p.n).wf = true := by
 obtain ⟨hl, hf⟩ := field_of Try.underlying133 (by kernel_rfl) (by kernel_rfl) h; obtain ⟨v0, n0, y0, e0, t0⟩ := hf 0 _ rfl; obtain ⟨v1, n1, y1, e1, t1⟩ := hf 1 _ rfl; obtain ⟨v2, n2, y2, e2, t2⟩ := hf 2 _ rfl; obtain ⟨v3, n3, y3, e3, t3⟩ := hf 3 _ rfl; obtain ⟨i0, a0, _, _⟩ := DataW.trod_int Try.underlying3 t0; obtain ⟨i1, a1, _, w1⟩ := DataW.trod_int Try.underlying2 t1; obtain ⟨i2, a2, _, _⟩ := DataW.trod_string Try.underlying9 t2; obtain ⟨i3, a3, _, h3⟩ := DataW.trod_int Try.underlying5 t3; simp only [List.cons.injEq, and_true] at a0 a1 a2 a3; subst a0 a1 a2 a3; have hb := wf_u8 h3; obtain ⟨m, rfl⟩ := Int.eq_ofNat_of_zero_le hb.1; exact ⟨⟨i0, i1, i2, m⟩, list4 hl e0 e1 e2 e3, by have := hb.2; show m < 256; omega, w1⟩
theorem ptSl_of {fuel : Nat} {v : Value} {x : DataW H × List MemPlace} (h : DataW.trod enc Try.prog w base spare held fuel 45 [v] = some x) : ∃ L, PtSl w v L ∧ ∀ p ∈ L, (Lit.int .i64 p.n).wf = true := by
 rcases open_slice Try.underlying45 h with ⟨hcs, _⟩ | ⟨a, len, cap, m, n, D, Pl, hcs, _, hl, hm, hmm, _, hi⟩
 ·simp only [List.cons.injEq, and_true] at hcs
  subst hcs; exact ⟨[], PtSl.none_ (by decide), fun p h => by cases h⟩
 ·simp only [List.cons.injEq, and_true] at hcs
  subst hcs; have hlm : len ≤ m := by rw [hmm]; split <;> omega
  have hC : Try.prog.cellsOf 133 = 4 := by kernel_rfl
  have each : ∀ i, i < len → ∃ x : Pt, (x.a < 256 ∧ (Lit.int .i64 x.n).wf = true) ∧ ∀ q, q < 4 → w.cell? (a.add (i * 4 + q)) = x.cells[q]? := by
   intro i hilt; obtain ⟨cs, hc, ht⟩ := hi i (by omega); obtain ⟨x, rfl, hx⟩ := pt_of ht; obtain ⟨_, _, hat⟩ := World.cells?_some hc; rw [hC] at hat; exact ⟨x, hx, fun q hq => by rw [← Go.Deep.add_add]; exact hat q hq⟩
  let f : Nat → Pt := fun i => if h : i < len then Classical.choose (each i h) else ⟨0, 0, ⟨#[]⟩, 0⟩
  have hf : ∀ i, i < len → ((f i).a < 256 ∧ (Lit.int .i64 (f i).n).wf = true) ∧ ∀ q, q < 4 → w.cell? (a.add (i * 4 + q)) = (f i).cells[q]? := fun i hilt => by
   have := Classical.choose_spec (each i hilt); simp only [f, dif_pos hilt]; exact this
  refine ⟨(List.range len).map f, ⟨some a, cap, by simp, fun j hj => ?_, by simpa using hl, hm⟩, fun p hp => by obtain ⟨i, hi, rfl⟩ := List.mem_map.1 hp; exact (hf i (List.mem_range.1 hi)).1.2⟩; have hjl : j < len := by simpa using hj
  obtain ⟨b, off, spot⟩ := a; have h00 : w.cell? ((⟨b, off, spot⟩ : Addr).add 0) = some (.int .i64 (f 0).k) := by simpa [Pt.cells] using (hf 0 (by omega)).2 0 (by omega)
  have hsp : spot = none := by simpa [Addr.add] using World.cell?_spot h00
  subst hsp; have hg : ((List.range len).map f)[j] = f j := by simp
  rw [hg]
  have key : ∀ q, q < 4 → w.cell? ⟨b, off + j * 4 + q, none⟩ = (f j).cells[q]? := fun q hq => by
   have := (hf j hjl).2 q hq; rw [Addr.add_lit, ← Nat.add_assoc] at this; exact this
  exact ⟨(hf j hjl).1.1, b, off, rfl, World.block_lt_of_cell? _ _ ((key 0 (by omega)).trans rfl), key 0 (by omega), key 1 (by omega), key 2 (by omega), key 3 (by omega)⟩
theorem pts_wf_of {r : Reach} {b0 : Nat} {v : Value} {d : DataW H} {p : List MemPlace} (hv : Value.okWide Try.prog w r b0 45 v) (h : DataW.Trod enc Try.prog w base spare held 45 v d p) : ∃ L, PtSl w v L ∧ ∀ p ∈ L, (Lit.int .i64 p.n).wf = true := by
 obtain ⟨a, len, cap, rfl⟩ := okWide_slice Try.underlying45 hv; obtain ⟨fuel, hf⟩ := h; exact ptSl_of hf
theorem pts_of {r : Reach} {b0 : Nat} {v : Value} {d : DataW H} {p : List MemPlace} (hv : Value.okWide Try.prog w r b0 45 v) (h : DataW.Trod enc Try.prog w base spare held 45 v d p) : ∃ L, PtSl w v L := by
 obtain ⟨L, hL, _⟩ := pts_wf_of hv h; exact ⟨L, hL⟩
end
end Go.Proofs.Ytcbijikalfodnaa.Tms
namespace Go.Proofs.Ytcbijikalfodnaa.Tms
open Go Go.RowKit
def OfPost (t : Tm) (n : Nat) (w : World) (e : Ending) (w' : World) : Prop := ∃ v, e = .returned (.tuple #[v, .int .i64 n]) ∧ IsTm w' (fun b => w.heap.size ≤ b) v t ∧ Below w.heap.size w w'
structure OfCtx (w : World) (L : List Pt) (vl : Value) (p : Pt) (v : Value) (wr : World) : Prop where
 res : wr.heap[w.heap.size]? = some (.cells #[.int .i64 0, .int .i64 0, .string ⟨#[]⟩, .slice none 0 0] 49 (0, 0))
 part : wr.heap[w.heap.size + 1]? = some (.cells #[.int .i64 p.k, .int .i64 p.n, .string p.s, .int .u8 p.a] 133 (0, 0))
 box : wr.heap[w.heap.size + 2]? = some (.cells #[.int .i64 p.k, .int .i64 p.n, .string p.s, v] 49 (0, 0))
 bel : Below w.heap.size w wr
 big : w.heap.size + 3 ≤ wr.heap.size
 args : PtSl wr vl L
theorem OfCtx.on {w : World} {L : List Pt} {vl : Value} {p : Pt} {v : Value} {wr w' : World} (h : OfCtx w L vl p v wr) (h0 : PtSl w vl L) (hb : Below (w.heap.size + 3) wr w') : OfCtx w L vl p v w' :=
 have hbel := h.bel.trans (hb.mono (by omega))
 ⟨(hb.block _ (by omega)).trans h.res, (hb.block _ (by omega)).trans h.part, (hb.block _ (by omega)).trans h.box, hbel, Nat.le_trans h.big hb.size, h0.below hbel⟩
theorem OfCtx.store {w : World} {L : List Pt} {vl : Value} {p : Pt} {v v' : Value} {wr : World} (h : OfCtx w L vl p v wr) (h0 : PtSl w vl L) : OfCtx w L vl p v' (wr.setCell ⟨w.heap.size + 2, 3, none⟩ v') := by
 have hbel : Below w.heap.size w (wr.setCell ⟨w.heap.size + 2, 3, none⟩ v') := h.bel.setCell (show w.heap.size ≤ w.heap.size + 2 by omega) _; have ne := fun (k : Nat) (hk : k ≠ w.heap.size + 2) => Below.heap_setCell wr ⟨w.heap.size + 2, 3, none⟩ v' k hk
 refine ⟨(ne _ (by omega)).trans h.res, (ne _ (by omega)).trans h.part, ?_, hbel, by simpa [World.setCell] using h.big, h0.below hbel⟩; have := heap_setCell_same wr (w.heap.size + 2) 3 _ _ v' h.box
 simpa using this
theorem OwnSl.setLow {w : World} {base : Nat} {v : Value} {ts : List Tm} (h : OwnSl w base (fun b => base ≤ b) v ts) {b q : Nat} (hb : b < base) (u : Value) : OwnSl (w.setCell ⟨b, q, none⟩ u) base (fun b => base ≤ b) v ts := by
 obtain ⟨xs, h1, h2⟩ := h; exact ⟨xs, ownsRow_setCell_below h1 (by exact hb) u, h2.imp2 (fun b h => ⟨h.1, h.2.1, by simpa [World.setCell] using h.2.2⟩) fun k h _ => Below.heap_setCell w ⟨b, q, none⟩ u k (by have := h.1; show k ≠ b; omega)⟩
def OfRel (w : World) (N : Nat) (L : List Pt) (vl : Value) (p : Pt) (l : List Pt) (va vi : Value) (wr : World) : Prop :=
 ∃ (k : Nat) (v : Value), k ≤ p.a % 8 ∧ vi = .int .i64 k ∧ va = .int .i64 (((ofTo (ofN N) l k).2 + 1 : Nat) : Int) ∧ OfCtx w L vl p v wr ∧ OwnSl wr (w.heap.size + 3) (fun b => w.heap.size + 3 ≤ b) v (ofTo (ofN N) l k).1
theorem of_start (w : World) (N : Nat) (l : List Pt) (p : Pt) (vl : Value) (h : PtSl w vl (p :: l)) :
 OfRel w N (p :: l) vl p l (.int .i64 1) (.int .i64 0) (((w.alloc (.cells #[.int .i64 0, .int .i64 0, .string ⟨#[]⟩, .slice none 0 0] 49 (0, 0))).alloc (.cells #[.int .i64 p.k, .int .i64 p.n, .string p.s, .int .u8 p.a] 133 (0, 0))).alloc
  (.cells #[.int .i64 p.k, .int .i64 p.n, .string p.s, .slice none 0 0] 49 (0, 0))) := by
 obtain ⟨t0, t1, tsz, tbl⟩ := two w (.cells #[.int .i64 0, .int .i64 0, .string ⟨#[]⟩, .slice none 0 0] 49 (0, 0)) (.cells #[.int .i64 p.k, .int .i64 p.n, .string p.s, .int .u8 p.a] 133 (0, 0)); generalize (w.alloc (.cells #[.int .i64 0, .int .i64 0, .string ⟨#[]⟩, .slice none 0 0] 49 (0, 0))).alloc (.cells #[.int .i64 p.k, .int .i64 p.n, .string p.s, .int .u8 p.a] 133 (0, 0)) = w2 at *; have hb : Below w2.heap.size w2 (w2.alloc (.cells #[.int .i64 p.k, .int .i64 p.n, .string p.s, .slice none 0 0] 49 (0, 0))) := (Below.refl _ _).alloc (Nat.le_refl _) _; have hbel := tbl.trans (hb.mono (by omega)); refine ⟨0, .slice none 0 0, by omega, rfl, rfl, ⟨(hb.block _ (by omega)).trans t0, (hb.block _ (by omega)).trans t1, ?_, hbel, by simp; omega, h.below hbel⟩, OwnSl.nil _ _ _⟩; rw [show w.heap.size + 2 = w2.heap.size by omega]; exact heap_alloc_new _ _
theorem of_end {w wr : World} {N : Nat} {L : List Pt} {vl : Value} {p : Pt} {l : List Pt} {a : Option Addr} {c n : Nat} (hc : OfCtx w L vl p (.slice a n c) wr) (ho : OwnSl wr (w.heap.size + 3) (fun b => w.heap.size + 3 ≤ b) (.slice a n c) (ofTo (ofN N) l (p.a % 8)).1) (hn : n = (ofTo (ofN N) l (p.a % 8)).1.length) {cs : Array Value} :
 IsTm (wr.setRow w.heap.size cs) (fun b => w.heap.size ≤ b) (.agg #[.int .i64 p.k, .int .i64 p.n, .string p.s, .slice a n c]) (ofN (N + 1) (p :: l)).1 ∧ Below w.heap.size w (wr.setRow w.heap.size cs) := by
 subst hn; refine ⟨IsTm.mk' (t := (ofN (N + 1) (p :: l)).1) ?_, hc.bel.trans ⟨rfl, rfl, rfl, by simp, fun k hk => setRow_other _ _ _ _ (by omega)⟩⟩; exact ho.reads.imp (fun b h => by rcases h with h | h <;> omega) fun b h _ => setRow_other _ _ _ _ (by rcases h with h | h <;> omega)
theorem ref_of (N : Nat) : ∀ (L : List Pt) (v : Value) (w : World), L.length ≤ N → L.length ≤ 1000000 → PtSl w v L → Calls Try.prog 35 #[v] w (OfPost (ofN N L).1 (ofN N L).2 w) := by
 have empty : ∀ (v : Value) (w : World), PtSl w v [] → Calls Try.prog 35 #[v] w (OfPost atomA 0 w) := by
  intro v w h; obtain ⟨a, cap, rfl, -⟩ := h.form; clear h
  go_enter Try.func35, Try.ntmps35
  go_wp2; exact bodyPost_ret (v := .tuple #[atomV ⟨#[97]⟩, .int .i64 0]) (by simp [results, Try.results35, go_sem]) rfl ⟨_, rfl, atom_is _ _ _, (Below.refl _ _).alloc (Nat.le_refl _) _⟩
 induction N with
 | zero =>
   intro L v w hN hL h; obtain rfl : L = [] := List.eq_nil_of_length_eq_zero (by omega); exact empty v w h
 | succ N ih =>
   intro L v w hN hL h; rcases L with _ | ⟨p, l⟩
   ·exact empty v w h
   have IH := Lib.hid ih; clear ih empty; have hst := of_start w N l p v h; obtain ⟨a, cap, rfl, -⟩ := h.form; obtain ⟨b, off, rfl, hpa, hlt, hcl, hcm, c0, c1, c2, c3⟩ := h.head; have HST := Lib.hid hst; have H := Lib.hid h; have hl : l.length + 1 ≤ 1000000 := by simpa using hL
   have HN : Hid (l.length ≤ N) := Lib.hid (by simp at hN; omega); clear hst h hN hL; simp only [List.length_cons] at HST H ⊢; have hne : ((l.length : Int) + 1 == 0) = false := by rw [beq_eq_false_iff_ne]; omega
   go_enter Try.func35, Try.ntmps35
   go_wp2; clear c0 c1 c2 c3
   go_loopw [6, 7] (fun va vi wr => OfRel w N (p :: l) (.slice (some ⟨b, off, none⟩) (l.length + 1) cap) p l va vi wr) (fun _ vi _ => p.a % 8 - (intOf vi).toNat)
   case atStart => exact HST.out
   case round =>
    obtain ⟨k, v, hk, rfl, rfl, cx, ho⟩ := hrel; obtain ⟨-, p1, p2, p3⟩ := row4 cx.part; obtain ⟨t0, t1, t2, t3⟩ := row4 cx.box; have hbig := cx.big; have hle := ofTo_le (ofN_le N) l k; have hlen := ofTo_len (ofN N) l k; have hv := ho.form; rw [hlen] at hv; obtain ⟨av, cv, rfl⟩ := hv; have CX := Lib.hid cx; have OWN := Lib.hid ho; have HLEN := Lib.hid hlen; clear HST cx ho hlen
    by_cases hkm : k < p.a % 8
    ·have hkm' : (k : Int) < (p.a : Int) % 8 := by omega
     rcases Nat.lt_or_ge ((ofTo (ofN N) l k).2 + 1) cap with hc | hc
     ·have hin := (PtSl.drop (L := p :: l) (k := (ofTo (ofN N) l k).2 + 1) CX.out.args (by simp only [List.length_cons]; omega))
      have HIN : Hid (PtSl wr (.slice (some ⟨b, off + ((ofTo (ofN N) l k).2 + 1) * 4, none⟩) (l.length - (ofTo (ofN N) l k).2) (cap - ((ofTo (ofN N) l k).2 + 1))) (l.drop (ofTo (ofN N) l k).2)) := Lib.hid (by simpa using hin); clear hin; have hdl : (l.drop (ofTo (ofN N) l k).2).length ≤ N := by rw [List.length_drop]; have := HN.out; omega
      have hdl2 : (l.drop (ofTo (ofN N) l k).2).length ≤ 1000000 := by rw [List.length_drop]; omega
      have hk6 : k ≤ 1000000000 := by omega
      have hm2 := ofN_le N (l.drop (ofTo (ofN N) l k).2); rw [List.length_drop] at hm2
      go_wp2_with (first
       | (go_at_call 35
          refine (IH.out (l.drop (ofTo (ofN N) l k).2) _ _ hdl hdl2 HIN.out).mono ?_; rintro e2 w2 ⟨v2, rfl, hi2, hb2⟩; obtain ⟨a2, c2, rfl⟩ := hi2.form; have hx := CX.out.on H.out (hb2.mono hbig); have hal : Below w2.heap.size w2 (w2.alloc (.cells #[.int .i64 (ofN N (l.drop (ofTo (ofN N) l k).2)).1.k, .int .i64 (ofN N (l.drop (ofTo (ofN N) l k).2)).1.n, .string (ofN N (l.drop (ofTo (ofN N) l k).2)).1.s, .slice a2 (ofN N (l.drop (ofTo (ofN N) l k).2)).1.args.length c2] 49 (0, 0))) := (Below.refl _ _).alloc (Nat.le_refl _) _; have CX2 := Lib.hid (hx.on H.out (hal.mono hx.big)); have OWN2 := Lib.hid ((OWN.out.below hb2).below hal); have hit := (hi2.imp (P' := fun b => w.heap.size + 3 ≤ b ∧ Value.ownBlock (.slice av k cv) ≠ some b) (fun b h => ⟨Nat.le_trans hbig h, fun e => by have := (OWN.out.low b e).2; omega⟩) fun _ _ _ => rfl).below hal; have HIT := Lib.hid hit; have t3 : w2.cell? ⟨w.heap.size + 1 + 1, 3, none⟩ = some (.slice av k cv) := (row4 hx.box).2.2.2; have hlt2 : w.heap.size + 1 + 1 < w2.heap.size := by have := hx.big; omega
          have hbig2 := hx.big; have hb2s := hb2.size; clear hi2 hb2 hx hal hit)
       | (with_reducible show wpList _ _ _ (⟨some 43, _, _, _, _, _⟩ :: _) _ _; refine wpList_push_term rfl (.tmp 40) (.tmp 42) rfl (w.heap.size + 3) _ _ _ _ _ _ _ _ _ rfl OWN2.out rfl (by simp) HIT.out (by rw [HLEN.out]; exact hk6) (by simp; omega) ?_
          intro v3 w3 hown hb3 _ _; obtain ⟨a3, c3, rfl⟩ := hown.form; have e1 : ((ofTo (ofN N) l k).1 ++ [(ofN N (l.drop (ofTo (ofN N) l k).2)).1]).length = k + 1 := by rw [List.length_append, HLEN.out]; rfl
          rw [e1] at hown; rw [e1]; clear e1; have cx3 := CX2.out.on H.out hb3; have t33 : w3.cell? ⟨w.heap.size + 1 + 1, 3, none⟩ = some (.slice av k cv) := (row4 cx3.box).2.2.2; have hf3 : w3.frozen? ⟨w.heap.size + 1 + 1, 3, none⟩ = false := frozen_of_row _ _ 3 _ _ cx3.box; have e2 : w.heap.size + 1 + 1 = w.heap.size + 2 := rfl; have CX3 : Hid (OfCtx w (p :: l) _ p (.slice a3 (k + 1) c3) (w3.setCell ⟨w.heap.size + 1 + 1, 3, none⟩ (.slice a3 (k + 1) c3))) := Lib.hid (by rw [e2]; exact cx3.store H.out); have OWN3 : Hid (OwnSl (w3.setCell ⟨w.heap.size + 1 + 1, 3, none⟩ (.slice a3 (k + 1) c3)) (w.heap.size + 3) (fun b => w.heap.size + 3 ≤ b) (.slice a3 (k + 1) c3) (ofTo (ofN N) l (k + 1)).1) := Lib.hid (by rw [e2]; exact hown.setLow (by omega) _); clear e2; clear cx3 hown hb3))
      go_roundw
      case rel => exact ⟨k + 1, _, by omega, by go_num, by simp only [ofTo]; go_num, CX3.out, OWN3.out⟩
      case measure => simp [intOf]; omega
     ·have hin : l.length = (ofTo (ofN N) l k).2 := by omega
      have HIN : Hid (PtSl wr (.slice (some ⟨b, off, none⟩) (l.length - (ofTo (ofN N) l k).2) 0) (l.drop (ofTo (ofN N) l k).2)) := Lib.hid (by rw [← hin, List.drop_length, Nat.sub_self]; exact PtSl.none_ (by decide)); clear hin; have hdl : (l.drop (ofTo (ofN N) l k).2).length ≤ N := by rw [List.length_drop]; have := HN.out; omega
      have hdl2 : (l.drop (ofTo (ofN N) l k).2).length ≤ 1000000 := by rw [List.length_drop]; omega
      have hk6 : k ≤ 1000000000 := by omega
      have hm2 := ofN_le N (l.drop (ofTo (ofN N) l k).2); rw [List.length_drop] at hm2
      go_wp2_with (first
       | (go_at_call 35
          refine (IH.out (l.drop (ofTo (ofN N) l k).2) _ _ hdl hdl2 HIN.out).mono ?_; rintro e2 w2 ⟨v2, rfl, hi2, hb2⟩; obtain ⟨a2, c2, rfl⟩ := hi2.form; have hx := CX.out.on H.out (hb2.mono hbig); have hal : Below w2.heap.size w2 (w2.alloc (.cells #[.int .i64 (ofN N (l.drop (ofTo (ofN N) l k).2)).1.k, .int .i64 (ofN N (l.drop (ofTo (ofN N) l k).2)).1.n, .string (ofN N (l.drop (ofTo (ofN N) l k).2)).1.s, .slice a2 (ofN N (l.drop (ofTo (ofN N) l k).2)).1.args.length c2] 49 (0, 0))) := (Below.refl _ _).alloc (Nat.le_refl _) _; have CX2 := Lib.hid (hx.on H.out (hal.mono hx.big)); have OWN2 := Lib.hid ((OWN.out.below hb2).below hal); have hit := (hi2.imp (P' := fun b => w.heap.size + 3 ≤ b ∧ Value.ownBlock (.slice av k cv) ≠ some b) (fun b h => ⟨Nat.le_trans hbig h, fun e => by have := (OWN.out.low b e).2; omega⟩) fun _ _ _ => rfl).below hal; have HIT := Lib.hid hit; have t3 : w2.cell? ⟨w.heap.size + 1 + 1, 3, none⟩ = some (.slice av k cv) := (row4 hx.box).2.2.2; have hlt2 : w.heap.size + 1 + 1 < w2.heap.size := by have := hx.big; omega
          have hbig2 := hx.big; have hb2s := hb2.size; clear hi2 hb2 hx hal hit)
       | (with_reducible show wpList _ _ _ (⟨some 43, _, _, _, _, _⟩ :: _) _ _; refine wpList_push_term rfl (.tmp 40) (.tmp 42) rfl (w.heap.size + 3) _ _ _ _ _ _ _ _ _ rfl OWN2.out rfl (by simp) HIT.out (by rw [HLEN.out]; exact hk6) (by simp; omega) ?_
          intro v3 w3 hown hb3 _ _; obtain ⟨a3, c3, rfl⟩ := hown.form; have e1 : ((ofTo (ofN N) l k).1 ++ [(ofN N (l.drop (ofTo (ofN N) l k).2)).1]).length = k + 1 := by rw [List.length_append, HLEN.out]; rfl
          rw [e1] at hown; rw [e1]; clear e1; have cx3 := CX2.out.on H.out hb3; have t33 : w3.cell? ⟨w.heap.size + 1 + 1, 3, none⟩ = some (.slice av k cv) := (row4 cx3.box).2.2.2; have hf3 : w3.frozen? ⟨w.heap.size + 1 + 1, 3, none⟩ = false := frozen_of_row _ _ 3 _ _ cx3.box; have e2 : w.heap.size + 1 + 1 = w.heap.size + 2 := rfl; have CX3 : Hid (OfCtx w (p :: l) _ p (.slice a3 (k + 1) c3) (w3.setCell ⟨w.heap.size + 1 + 1, 3, none⟩ (.slice a3 (k + 1) c3))) := Lib.hid (by rw [e2]; exact cx3.store H.out); have OWN3 : Hid (OwnSl (w3.setCell ⟨w.heap.size + 1 + 1, 3, none⟩ (.slice a3 (k + 1) c3)) (w.heap.size + 3) (fun b => w.heap.size + 3 ≤ b) (.slice a3 (k + 1) c3) (ofTo (ofN N) l (k + 1)).1) := Lib.hid (by rw [e2]; exact hown.setLow (by omega) _); clear e2; clear cx3 hown hb3))
      go_roundw
      case rel => exact ⟨k + 1, _, by omega, by go_num, by simp only [ofTo]; go_num, CX3.out, OWN3.out⟩
      case measure => simp [intOf]; omega
    ·obtain rfl : k = p.a % 8 := by omega
     go_wp2_with (refine wpList_store_row rfl 49 (.tmp 2) (.tmp 48) rfl w.heap.size _ rfl rfl _ _ CX.out.res size_term rfl (one4 _ _ _ _ _ _) ?_)
     have hz := setRow_heap wr w.heap.size _ (#[.int .i64 p.k, .int .i64 p.n, .string p.s, .slice av (p.a % 8) cv] : Array Value) _ _ CX.out.res; obtain ⟨e1, e2⟩ := of_end CX.out OWN.out HLEN.out.symm (cs := #[.int .i64 p.k, .int .i64 p.n, .string p.s, .slice av (p.a % 8) cv]); refine bodyPost_ret (v := .tuple #[.agg #[.int .i64 p.k, .int .i64 p.n, .string p.s, .slice av (p.a % 8) cv], .int .i64 (((ofTo (ofN N) l (p.a % 8)).2 + 1 : Nat) : Int)]) (Push.results_cell_tmp Try.results35 _ _ w.heap.size _ _ _ _ _ rfl (by simp) hz Try.underlying49 rfl (by kernel_rfl)) rfl ⟨_, rfl, e1, e2⟩
end Go.Proofs.Ytcbijikalfodnaa.Tms
namespace Go.Proofs.Ytcbijikalfodnaa.Tms
open Go Go.RowKit Go.Proofs.Ytcbijikalfodnaa.Reg
mutual
def mendT : Tm → Tm
 | .mk k n s a => if 20 < s.size then atomA else if k = 1 then .mk 1 (max 0 n) ⟨#[]⟩ [] else if k = 2 then .mk 2 n ⟨#[]⟩ [] else if k = 3 then .mk 3 0 s [] else if k = 4 then (if a.length = 0 then atomA else .mk 4 0 s (mendL a)) else atomA
def mendL : List Tm → List Tm
 | [] => []
 | t :: ts => mendT t :: mendL ts
end
theorem mendL_map : ∀ l, mendL l = l.map mendT
 | [] => by simp [mendL]
 | t :: l => by simp [mendL, mendL_map l]
mutual
theorem mendT_size : ∀ t : Tm, (mendT t).size ≤ t.size
 | .mk k n s a => by
   have h := mendL_size a; unfold mendT
   repeat' split
   all_goals simp only [Tm.size, sizeL, atomA, atomT]
   all_goals omega
theorem mendL_size : ∀ l : List Tm, sizeL (mendL l) ≤ sizeL l
 | [] => by simp [mendL, sizeL]
 | t :: l => by have h1 := mendT_size t; have h2 := mendL_size l; simp only [mendL, sizeL]; omega
end
def NewRow (B : Nat) (t : Tm) (v : Value) (u : World) : Prop := ∃ b c0 c1 c2 c3, v = .slice (some ⟨b, 0, none⟩) 1 1 ∧ u.heap[b]? = some (.cells #[c0, c1, c2, c3] 49 (0, 0)) ∧ IsTm u (fun b => B ≤ b) (.agg #[c0, c1, c2, c3]) t
theorem NewRow.below {B : Nat} {t : Tm} {v : Value} {u u' : World} (h : NewRow B t v u) (hb : Below u.heap.size u u') : NewRow B t v u' :=
 let ⟨b, c0, c1, c2, c3, e, hh, hi⟩ := h; ⟨b, c0, c1, c2, c3, e, (hb.block b (Array.getElem?_eq_some_iff.1 hh).1).trans hh, hi.below hb⟩
theorem NewRow.made {B : Nat} {t : Tm} {u : World} {c0 c1 c2 c3 : Value} (h : IsTm u (fun b => B ≤ b) (.agg #[c0, c1, c2, c3]) t) : NewRow B t (.slice (some ⟨u.heap.size, 0, none⟩) 1 1) (u.alloc (.cells #[c0, c1, c2, c3] 49 (0, 0))) :=
 ⟨_, _, _, _, _, rfl, heap_alloc_new _ _, h.below ((Below.refl _ _).alloc (Nat.le_refl _) _)⟩
structure MdCtx (w : World) (P : Nat → Prop) (s : ByteArray) (va : Value) (l : List Tm) (v : Value) (wr : World) : Prop where
 res : wr.heap[w.heap.size + 1]? = some (.cells #[.int .i64 0, .int .i64 0, .string ⟨#[]⟩, .slice none 0 0] 49 (0, 0))
 box : wr.heap[w.heap.size + 3]? = some (.cells #[.int .i64 4, .int .i64 0, .string s, v] 49 (0, 0))
 bel : Below w.heap.size w wr
 big : w.heap.size + 4 ≤ wr.heap.size
 args : IsSl wr (fun b => P b ∧ b < w.heap.size) va l
theorem MdCtx.on {w : World} {P : Nat → Prop} {s : ByteArray} {va : Value} {l : List Tm} {v : Value} {wr w' : World} (h : MdCtx w P s va l v wr) (hb : Below (w.heap.size + 4) wr w') : MdCtx w P s va l v w' :=
 ⟨(hb.block _ (by omega)).trans h.res, (hb.block _ (by omega)).trans h.box, h.bel.trans (hb.mono (by omega)), Nat.le_trans h.big hb.size, h.args.imp (fun _ h => h) fun b h _ => hb.block b (by have := h.2; omega)⟩
theorem MdCtx.store {w : World} {P : Nat → Prop} {s : ByteArray} {va : Value} {l : List Tm} {v v' : Value} {wr : World} (h : MdCtx w P s va l v wr) : MdCtx w P s va l v' (wr.setCell ⟨w.heap.size + 3, 3, none⟩ v') := by
 have ne := fun (k : Nat) (hk : k ≠ w.heap.size + 3) => Below.heap_setCell wr ⟨w.heap.size + 3, 3, none⟩ v' k hk
 refine ⟨(ne _ (by omega)).trans h.res, ?_, h.bel.setCell (show w.heap.size ≤ w.heap.size + 3 by omega) _, by simpa [World.setCell] using h.big, h.args.imp (fun _ h => h) fun b h _ => ne b (by have := h.2; omega)⟩; have := heap_setCell_same wr (w.heap.size + 3) 3 _ _ v' h.box
 simpa using this
def MdRel (w : World) (P : Nat → Prop) (s : ByteArray) (va : Value) (l : List Tm) (vi : Value) (wr : World) : Prop :=
 ∃ (k : Nat) (v : Value), k ≤ l.length ∧ vi = .int .i64 k ∧ MdCtx w P s va l v wr ∧ OwnSl wr (w.heap.size + 4) (fun b => w.heap.size + 4 ≤ b) v (mendL (l.take k))
theorem md_end {w wr : World} {P : Nat → Prop} {s : ByteArray} {va : Value} {l : List Tm} {a : Option Addr} {c n : Nat} (hc : MdCtx w P s va l (.slice a n c) wr) (ho : OwnSl wr (w.heap.size + 4) (fun b => w.heap.size + 4 ≤ b) (.slice a n c) (mendL l)) (hn : n = (mendL l).length) {cs : Array Value} :
 MakesTm (fun _ => False) (.mk 4 0 s (mendL l)) w (.returned (.agg #[.int .i64 4, .int .i64 0, .string s, .slice a n c])) (wr.setRow (w.heap.size + 1) cs) := by
 subst hn; refine ⟨_, rfl, IsTm.mk' (t := .mk 4 0 s (mendL l)) ?_, hc.bel.trans ⟨rfl, rfl, rfl, by simp, fun k hk => setRow_other _ _ _ _ (by omega)⟩⟩; exact ho.reads.imp (fun b h => .inr (by rcases h with h | h <;> omega)) fun b h _ => setRow_other _ _ _ _ (by rcases h with h | h <;> omega)
theorem md_start (w : World) (P : Nat → Prop) (k n : Int) (s : ByteArray) (a : Option Addr) (cap : Nat) (l : List Tm) (h : IsSl w (fun b => P b ∧ b < w.heap.size) (.slice a l.length cap) l) :
 MdRel w P s (.slice a l.length cap) l (.int .i64 0) ((((w.alloc (.cells #[.int .i64 k, .int .i64 n, .string s, .slice a l.length cap] 49 (0, 0))).alloc (.cells #[.int .i64 0, .int .i64 0, .string ⟨#[]⟩, .slice none 0 0] 49 (0, 0))).alloc
  (.cells #[.int .i64 3, .int .i64 0, .string ⟨#[97]⟩, .slice none 0 0] 49 (0, 0))).alloc (.cells #[.int .i64 4, .int .i64 0, .string s, .slice none 0 0] 49 (0, 0))) := by
 obtain ⟨-, t1, tsz, tbl⟩ := two w (.cells #[.int .i64 k, .int .i64 n, .string s, .slice a l.length cap] 49 (0, 0)) (.cells #[.int .i64 0, .int .i64 0, .string ⟨#[]⟩, .slice none 0 0] 49 (0, 0)); generalize (w.alloc (.cells #[.int .i64 k, .int .i64 n, .string s, .slice a l.length cap] 49 (0, 0))).alloc (.cells #[.int .i64 0, .int .i64 0, .string ⟨#[]⟩, .slice none 0 0] 49 (0, 0)) = w2 at *; obtain ⟨-, u1, usz, ubl⟩ := two w2 (.cells #[.int .i64 3, .int .i64 0, .string ⟨#[97]⟩, .slice none 0 0] 49 (0, 0)) (.cells #[.int .i64 4, .int .i64 0, .string s, .slice none 0 0] 49 (0, 0)); generalize (w2.alloc (.cells #[.int .i64 3, .int .i64 0, .string ⟨#[97]⟩, .slice none 0 0] 49 (0, 0))).alloc (.cells #[.int .i64 4, .int .i64 0, .string s, .slice none 0 0] 49 (0, 0)) = w4 at *; have hbel := tbl.trans (ubl.mono (by omega)); refine ⟨0, .slice none 0 0, by omega, rfl, ⟨(ubl.block _ (by omega)).trans t1, ?_, hbel, by omega, h.imp (fun _ h => h) fun b h _ => hbel.block b h.2⟩, by simpa [mendL] using OwnSl.nil _ _ _⟩; rw [show w.heap.size + 3 = w2.heap.size + 1 by omega]; exact u1
theorem leaf_is (w : World) (P : Nat → Prop) (k n : Int) (s : ByteArray) : IsTm w P (.agg #[.int .i64 k, .int .i64 n, .string s, .slice none 0 0]) (.mk k n s []) := ⟨none, 0, rfl, by unfold ArgsFrom; trivial⟩
theorem three_below (w : World) (a b c : Obj) : Below w.heap.size w (((w.alloc a).alloc b).alloc c) := (((Below.refl _ _).alloc (Nat.le_refl _) _).alloc (by simp) _).alloc (by simp; omega) _
theorem ref_mend (N : Nat) : ∀ (t : Tm) (v : Value) (P : Nat → Prop) (w : World), t.size ≤ N → t.size ≤ 1000000000 → IsTm w P v t → Calls Try.prog 36 #[v] w (MakesTm (fun _ => False) (mendT t) w) := by
 induction N with
 | zero => intro t v P w hN; have := size_pos t; omega
 | succ N ih =>
   intro t v P w hN hM h; have IH := Lib.hid ih; clear ih; have hl := h.lt; clear h; obtain ⟨a, cap, rfl⟩ := hl.form; obtain ⟨k, n, s, l⟩ := t; have hsl := hl.args; simp only [Tm.k, Tm.n, Tm.s, Tm.args] at hsl ⊢; have hst := md_start w P k n s a cap l hsl; have HST := Lib.hid hst; have hNl : sizeL l ≤ N := by simp only [Tm.size] at hN; omega
   have hMl : sizeL l ≤ 1000000000 := by simp only [Tm.size] at hM; omega
   have HN := Lib.hid hNl; have hll := len_le l; clear hl hsl hst hN hM hNl
   by_cases h20 : 20 < s.size
   ·have hm : mendT (.mk k n s l) = atomA := by simp [mendT, h20]
    rw [hm]; clear hm
    go_enter Try.func36, Try.ntmps36
    go_wp2; exact bodyPost_ret (v := .agg #[.int .i64 3, .int .i64 0, .string ⟨#[97]⟩, .slice none 0 0]) (by simp [results, Try.results36, go_sem]) rfl ⟨_, rfl, leaf_is _ _ _ _ _, three_below _ _ _ _⟩
   by_cases k1 : k = 1
   ·subst k1
    have hm : mendT (.mk 1 n s l) = .mk 1 (max 0 n) ⟨#[]⟩ [] := by simp [mendT, h20]
    rw [hm]; clear hm
    by_cases hn : 0 < n
    ·rw [show max 0 n = n by omega]
     go_enter Try.func36, Try.ntmps36
     go_wp2; exact bodyPost_ret (v := .agg #[.int .i64 1, .int .i64 n, .string ⟨#[]⟩, .slice none 0 0]) (by simp [results, Try.results36, go_sem]) rfl ⟨_, rfl, leaf_is _ _ _ _ _, three_below _ _ _ _⟩
    ·rw [show max 0 n = 0 by omega]
     by_cases hn0 : n = 0
     ·subst hn0
      go_enter Try.func36, Try.ntmps36
      go_wp2; exact bodyPost_ret (v := .agg #[.int .i64 1, .int .i64 0, .string ⟨#[]⟩, .slice none 0 0]) (by simp [results, Try.results36, go_sem]) rfl ⟨_, rfl, leaf_is _ _ _ _ _, three_below _ _ _ _⟩
     have hn' : ¬ 0 ≤ n := by omega
     go_enter Try.func36, Try.ntmps36
     go_wp2; exact bodyPost_ret (v := .agg #[.int .i64 1, .int .i64 0, .string ⟨#[]⟩, .slice none 0 0]) (by simp [results, Try.results36, go_sem]) rfl ⟨_, rfl, leaf_is _ _ _ _ _, three_below _ _ _ _⟩
   by_cases k2 : k = 2
   ·subst k2
    have hm : mendT (.mk 2 n s l) = .mk 2 n ⟨#[]⟩ [] := by simp [mendT, h20]
    rw [hm]; clear hm
    go_enter Try.func36, Try.ntmps36
    go_wp2; exact bodyPost_ret (v := .agg #[.int .i64 2, .int .i64 n, .string ⟨#[]⟩, .slice none 0 0]) (by simp [results, Try.results36, go_sem]) rfl ⟨_, rfl, leaf_is _ _ _ _ _, three_below _ _ _ _⟩
   by_cases k3 : k = 3
   ·subst k3
    have hm : mendT (.mk 3 n s l) = .mk 3 0 s [] := by simp [mendT, h20]
    rw [hm]; clear hm
    go_enter Try.func36, Try.ntmps36
    go_wp2; exact bodyPost_ret (v := .agg #[.int .i64 3, .int .i64 0, .string s, .slice none 0 0]) (by simp [results, Try.results36, go_sem]) rfl ⟨_, rfl, leaf_is _ _ _ _ _, three_below _ _ _ _⟩
   by_cases k4 : k = 4
   case neg =>
    have hm : mendT (.mk k n s l) = atomA := by simp [mendT, h20, k1, k2, k3, k4]
    rw [hm]; have q1 : (k == 1) = false := by simpa using k1
    have q2 : (k == 2) = false := by simpa using k2
    have q3 : (k == 3) = false := by simpa using k3
    have q4 : (k == 4) = false := by simpa using k4
    clear hm k1 k2 k3 k4
    go_enter Try.func36, Try.ntmps36
    go_wp2; exact bodyPost_ret (v := .agg #[.int .i64 3, .int .i64 0, .string ⟨#[97]⟩, .slice none 0 0]) (by simp [results, Try.results36, go_sem]) rfl ⟨_, rfl, leaf_is _ _ _ _ _, three_below _ _ _ _⟩
   subst k4
   by_cases hl0 : l.length = 0
   ·have hm : mendT (.mk 4 n s l) = atomA := by simp [mendT, h20, List.eq_nil_of_length_eq_zero hl0]
    rw [hm]; clear hm; have hl0' : ((l.length : Int) == 0) = true := by rw [beq_iff_eq]; omega
    go_enter Try.func36, Try.ntmps36
    go_wp2; exact bodyPost_ret (v := .agg #[.int .i64 3, .int .i64 0, .string ⟨#[97]⟩, .slice none 0 0]) (by simp [results, Try.results36, go_sem]) rfl ⟨_, rfl, leaf_is _ _ _ _ _, three_below _ _ _ _⟩
   have hm : mendT (.mk 4 n s l) = .mk 4 0 s (mendL l) := by simp [mendT, h20, hl0]
   rw [hm]; have hl0' : ((l.length : Int) == 0) = false := by rw [beq_eq_false_iff_ne]; omega
   clear hm
   go_enter Try.func36, Try.ntmps36
   go_wp2
   go_loopw [44] (fun vi wr => MdRel w P s (.slice a l.length cap) l vi wr) (fun vi _ => l.length - (intOf vi).toNat)
   case atStart => exact HST.out
   case round =>
    obtain ⟨q, v, hq, rfl, cx, ho⟩ := hrel; have hlen : (mendL (l.take q)).length = q := by rw [mendL_map, List.length_map, List.length_take]; omega
    have hv := ho.form; rw [hlen] at hv; obtain ⟨av, cv, rfl⟩ := hv; obtain ⟨t0, t1, t2, t3⟩ := row4 cx.box; have hbig := cx.big; have CX := Lib.hid cx; have OWN := Lib.hid ho; have HLEN := Lib.hid hlen; clear HST cx ho hlen
    by_cases hql : q < l.length
    ·obtain ⟨xb, xo, rfl, hxp, hx⟩ := CX.out.args.at q hql
     obtain ⟨xa, xc, x0, x1, x2, x3, xi, xlt⟩ := hx.read; have hxs := size_mem hql; have hsz : l[q].size ≤ N := by have := HN.out; omega
     have hsz2 : l[q].size ≤ 1000000000 := by omega
     have htk : l.take (q + 1) = l.take q ++ [l[q]] := List.take_succ_eq_append_getElem hql; have hmk : mendL (l.take (q + 1)) = mendL (l.take q) ++ [mendT l[q]] := by rw [htk, mendL_map, List.map_append, mendL_map]; rfl
     have HMK := Lib.hid hmk; have XI := Lib.hid xi; have hqi : (q : Int) < (l.length : Int) := by omega
     clear hx xi htk hmk hxs hxp; generalize l[q] = x at *; have e3 : w.heap.size + 1 + 1 + 1 = w.heap.size + 3 := rfl; have hxw : x0 = x0 := rfl; go_wp2; have hW : (wr.alloc (.cells #[.int .i64 x.k, .int .i64 x.n, .string x.s, .slice xa x.args.length xc] 49 (0, 0))).heap[wr.heap.size]? = some (.cells #[.int .i64 x.k, .int .i64 x.n, .string x.s, .slice xa x.args.length xc] 49 (0, 0)) := heap_alloc_new _ _; have hal : Below wr.heap.size wr (wr.alloc (.cells #[.int .i64 x.k, .int .i64 x.n, .string x.s, .slice xa x.args.length xc] 49 (0, 0))) := (Below.refl _ _).alloc (Nat.le_refl _) _; have hsz1 : (wr.alloc (.cells #[.int .i64 x.k, .int .i64 x.n, .string x.s, .slice xa x.args.length xc] 49 (0, 0))).heap.size = wr.heap.size + 1 := by simp
     generalize wr.alloc (.cells #[.int .i64 x.k, .int .i64 x.n, .string x.s, .slice xa x.args.length xc] 49 (0, 0)) = W at *; refine wp_region_rest (by kernel_rfl) ?_; have hd : Below W.heap.size W W.drew := (Below.refl _ _).drew; have hall := hal.trans (hd.mono (by omega)); have HXB := Lib.hid ((hd.block _ (by omega)).trans hW); have hbig0 : wr.heap.size + 1 ≤ W.drew.heap.size := by have := hd.size; omega
     have CX0 := Lib.hid (CX.out.on (hall.mono hbig)); have OWN0 := Lib.hid (OWN.out.below hall); have XI0 := Lib.hid (XI.out.below hall); clear hd hall hal hW hsz1 x0 x1 x2 x3 t0 t1 t2 t3 hxw e3; generalize W.drew = W0 at *; refine rest_ops 0 5 58 (fun j v u => match j with | 0 => v = .pointer (some ⟨w.heap.size + 1 + 1 + 1, 3, none⟩) | 1 => v = .slice av q cv | 2 => v = .agg #[.int .i64 x.k, .int .i64 x.n, .string x.s, .slice xa x.args.length xc] | 3 => IsTm u (fun b => W0.heap.size ≤ b) v (mendT x) | 4 => NewRow W0.heap.size (mendT x) v u | _ => True) (fun _ _ => none) (by kernel_rfl) (by kernel_rfl) rfl (.inr (by kernel_rfl)) ?hS ?hop ?_
     case hS =>
      intro j v u u' hkj hjn h hb
      match j, hkj, hjn, h with
      | 0, _, _, h => exact h
      | 1, _, _, h => exact h
      | 2, _, _, h => exact h
      | 3, _, _, h => exact h.below hb
      | 4, _, _, h => exact h.below hb
      | q + 5, _, hq, _ => exact absurd hq (by omega)
     case hop =>
      refine ⟨fun v u hu hs Q' hQ => ?_, fun v u hu hs Q' hQ => ?_, fun v u hu hs Q' hQ => ?_, fun v u hu hs Q' hQ => ?_, fun v u hu hs Q' hQ => ?_, trivial⟩
      ·simp only [putAll, dstOf]
       obtain ⟨f0, f1, f2, f3⟩ := row4 ((hu.block _ (by omega)).trans HXB.out); have g3 : u.cell? ⟨w.heap.size + 1 + 1 + 1, 3, none⟩ = some (.slice av q cv) := (row4 (CX0.out.on (hu.mono CX0.out.big)).box).2.2.2; go_wp2; exact ⟨rfl, Below.refl _ _, rfl, fun _ h => nomatch h⟩
      ·simp only [putAll, dstOf]
       have s_0 : v 0 = .pointer (some ⟨w.heap.size + 1 + 1 + 1, 3, none⟩) := hs 0 (by kernel_rfl) (by decide) (by decide); obtain ⟨f0, f1, f2, f3⟩ := row4 ((hu.block _ (by omega)).trans HXB.out); have g3 : u.cell? ⟨w.heap.size + 1 + 1 + 1, 3, none⟩ = some (.slice av q cv) := (row4 (CX0.out.on (hu.mono CX0.out.big)).box).2.2.2; go_wp2; exact ⟨rfl, Below.refl _ _, rfl, fun _ h => nomatch h⟩
      ·simp only [putAll, dstOf]
       obtain ⟨f0, f1, f2, f3⟩ := row4 ((hu.block _ (by omega)).trans HXB.out); have g3 : u.cell? ⟨w.heap.size + 1 + 1 + 1, 3, none⟩ = some (.slice av q cv) := (row4 (CX0.out.on (hu.mono CX0.out.big)).box).2.2.2; go_wp2; exact ⟨rfl, Below.refl _ _, rfl, fun _ h => nomatch h⟩
      ·simp only [putAll, dstOf]
       have s_2 : v 2 = .agg #[.int .i64 x.k, .int .i64 x.n, .string x.s, .slice xa x.args.length xc] := hs 2 (by kernel_rfl) (by decide) (by decide); obtain ⟨f0, f1, f2, f3⟩ := row4 ((hu.block _ (by omega)).trans HXB.out); have g3 : u.cell? ⟨w.heap.size + 1 + 1 + 1, 3, none⟩ = some (.slice av q cv) := (row4 (CX0.out.on (hu.mono CX0.out.big)).box).2.2.2
       go_wp2_with (go_at_call 36; refine (IH.out x _ _ _ hsz hsz2 (XI0.out.below hu)).mono ?_; rintro e1 w1 ⟨v1, rfl, hi1, hb1⟩)
       exact ⟨rfl, hb1, hi1.imp (fun b h => h.elim False.elim fun h => Nat.le_trans hu.size h) fun _ _ _ => rfl, fun _ h => nomatch h⟩
      ·simp only [putAll, dstOf]
       have s_3 : IsTm u (fun b => W0.heap.size ≤ b) (v 3) (mendT x) := hs 3 (by kernel_rfl) (by decide) (by decide); obtain ⟨f0, f1, f2, f3⟩ := row4 ((hu.block _ (by omega)).trans HXB.out); have g3 : u.cell? ⟨w.heap.size + 1 + 1 + 1, 3, none⟩ = some (.slice av q cv) := (row4 (CX0.out.on (hu.mono CX0.out.big)).box).2.2.2; obtain ⟨a3, c3, e3⟩ := s_3.form; go_wp2
       exact ⟨rfl, (Below.refl _ _).alloc (Nat.le_refl _) _, NewRow.made (e3 ▸ s_3), fun _ h => nomatch h⟩
     intro v u hu hs hap; have s_0 : v 0 = .pointer (some ⟨w.heap.size + 1 + 1 + 1, 3, none⟩) := hs 0 (by decide) (by decide); have s_1 : v 1 = .slice av q cv := hs 1 (by decide) (by decide); have s_2 : v 2 = .agg #[.int .i64 x.k, .int .i64 x.n, .string x.s, .slice xa x.args.length xc] := hs 2 (by decide) (by decide); have s_3 : IsTm u (fun b => W0.heap.size ≤ b) (v 3) (mendT x) := hs 3 (by decide) (by decide); have s_4 : NewRow W0.heap.size (mendT x) (v 4) u := hs 4 (by decide) (by decide); simp only [putAll, dstOf]; obtain ⟨rb, c0, c1, c2, c3, er, hrow, hit⟩ := s_4; have HROW := Lib.hid hrow; have hbu := hu.size; have hit2 := hit.imp (P' := fun b => w.heap.size + 4 ≤ b ∧ Value.ownBlock (.slice av q cv) ≠ some b) (fun b h => ⟨by omega, fun e => by have := (OWN.out.low b e).2; omega⟩) fun _ _ _ => rfl
     have HIT := Lib.hid hit2; have OWN2 := Lib.hid (OWN0.out.below hu); have CX2 := Lib.hid (CX0.out.on (hu.mono CX0.out.big)); have hq6 : q ≤ 1000000000 := by omega
     clear hs hap hu HXB hrow hit hit2 s_3; refine rest_lineL 5 8 [_, _, _] rfl (by kernel_rfl) (by decide) (by decide) (by kernel_rfl) ?_; simp only [Act.put, zA, zB, zC, zD, zE, zF, zG, Nat.reduceAdd, s_0, s_1, s_2, er]
     go_wp2_with (
      (with_reducible show wpList _ _ _ (⟨some 53, _, _, _, _, _⟩ :: _) _ _
       refine wpList_push_at rfl (.tmp 49) (.tmp 52) rfl (w.heap.size + 4) _ _ _ _ _ _ _ _ rb _ _ _ rfl OWN2.out rfl HROW.out HIT.out (by rw [HLEN.out]; exact hq6) CX2.out.big ?_; intro v3 w3 hown hb3 _ _; obtain ⟨a3, cc3, rfl⟩ := hown.form; have e1 : (mendL (l.take q) ++ [mendT x]).length = q + 1 := by rw [List.length_append, HLEN.out]; rfl
       rw [e1] at hown; rw [e1]; rw [← HMK.out] at hown; have cx3 := CX2.out.on hb3; have t33 : w3.cell? ⟨w.heap.size + 1 + 1 + 1, 3, none⟩ = some (.slice av q cv) := (row4 cx3.box).2.2.2; have hf3 : w3.frozen? ⟨w.heap.size + 1 + 1 + 1, 3, none⟩ = false := frozen_of_row _ _ 3 _ _ cx3.box; have e2 : w.heap.size + 1 + 1 + 1 = w.heap.size + 3 := rfl; have CX3 : Hid (MdCtx w P s _ l (.slice a3 (q + 1) cc3) (w3.setCell ⟨w.heap.size + 1 + 1 + 1, 3, none⟩ (.slice a3 (q + 1) cc3))) := Lib.hid (by rw [e2]; exact cx3.store); have OWN3 : Hid (OwnSl (w3.setCell ⟨w.heap.size + 1 + 1 + 1, 3, none⟩ (.slice a3 (q + 1) cc3)) (w.heap.size + 4) (fun b => w.heap.size + 4 ≤ b) (.slice a3 (q + 1) cc3) (mendL (l.take (q + 1)))) := Lib.hid (by rw [e2]; exact hown.setLow (by omega) _); clear cx3 hown hb3 e1 e2))
     refine then_rest (rest_end (by decide) ?_); go_wp2; go_roundw
     case rel => exact ⟨q + 1, _, by omega, by go_num, CX3.out, OWN3.out⟩
     case measure => simp [intOf]; omega
    ·obtain rfl : q = l.length := by omega
     go_wp2_with (refine wpList_store_row rfl 49 (.tmp 2) (.tmp 56) rfl (w.heap.size + 1) _ rfl rfl _ _ CX.out.res size_term rfl (one4 _ _ _ _ _ _) ?_)
     have hz := setRow_heap wr (w.heap.size + 1) _ (#[.int .i64 4, .int .i64 0, .string s, .slice av l.length cv] : Array Value) _ _ CX.out.res; have ho := OWN.out; rw [List.take_length] at ho; refine bodyPost_ret (v := .agg #[.int .i64 4, .int .i64 0, .string s, .slice av l.length cv]) (results_cell_row Try.results36 _ _ (w.heap.size + 1) _ _ _ _ rfl hz Try.underlying49 rfl (by kernel_rfl)) rfl (md_end CX.out ho (by rw [mendL_map, List.length_map]))
def goodT (L : List Pt) : Tm := mendT (ofN L.length L).1
theorem goodT_size (L : List Pt) : (goodT L).size ≤ 1 + 7 * L.length := by have h1 := mendT_size (ofN L.length L).1; have h2 := ofN_small L.length L; unfold goodT; omega
theorem ref_good (L : List Pt) (v : Value) (w : World) (hL : L.length ≤ 1000000) (h : PtSl w v L) : Calls Try.prog 15 #[v] w (MakesTm (fun _ => False) (goodT L) w) := by
 have RZ := Lib.hid (Rz.first w); have H := Lib.hid h; have hs := ofN_small L.length L; clear h
 go_enter Try.func15, Try.ntmps15
 go_wp2_with (first
  | (go_at_call 35
     refine (ref_of L.length L _ _ (Nat.le_refl _) hL (H.out.below ((Below.refl _ _).alloc (Nat.le_refl _) _))).mono ?_; rintro e2 w2 ⟨v2, rfl, hi2, hb2⟩; obtain ⟨a2, c2, rfl⟩ := hi2.form; have HI := Lib.hid hi2; replace RZ := Lib.hid (RZ.out.next hb2); clear hi2 hb2)
  | (go_at_call 36
     refine (ref_mend _ (ofN L.length L).1 _ _ _ (Nat.le_refl _) (by omega) (HI.out.below ((Below.refl _ _).alloc (Nat.le_refl _) _))).mono ?_; rintro e3 w3 ⟨v3, rfl, hi3, hb3⟩; have hu : mendT (ofN L.length L).1 = goodT L := rfl; rw [hu] at hi3; obtain ⟨a3, c3, rfl⟩ := hi3.form; have H3 : Hid (IsTm w3 (Low (fun _ => False) w (w.heap.size + 1)) (.agg #[.int .i64 (goodT L).k, .int .i64 (goodT L).n, .string (goodT L).s, .slice a3 (goodT L).args.length c3]) (goodT L)) := Lib.hid (hi3.imp (fun b h => h.elim False.elim fun h => .inr (by have := RZ.out.low; simp at h; omega)) fun _ _ _ => rfl); replace RZ := Lib.hid ((RZ.out.next ((Below.refl _ _).alloc (Nat.le_refl _) _)).next hb3); clear hi3 hb3 hu)
  | (refine wpList_store_row rfl 49 (.tmp 2) (.tmp 11) rfl w.heap.size _ rfl rfl _ _ RZ.out.res size_term rfl (one4 _ _ _ _ _ _) ?_))
 have hz := setRow_heap w3 w.heap.size _ (#[.int .i64 (goodT L).k, .int .i64 (goodT L).n, .string (goodT L).s, .slice a3 (goodT L).args.length c3] : Array Value) _ _ RZ.out.res; refine bodyPost_ret (results_cell_row Try.results15 _ _ w.heap.size _ _ _ _ rfl hz Try.underlying49 rfl (by kernel_rfl)) rfl (makes_at H3.out RZ.out.bel (Nat.le_refl _) RZ.out.low.2.1)
theorem ref_great (L : List Pt) (v : Value) (w : World) (h : PtSl w v L) : Calls Try.prog 14 #[v] w fun e w' => e = .returned (.bool (decide (60 < (L.length : Int)))) ∧ w = w' := by
 obtain ⟨a, cap, rfl, h1, h2⟩ := h.form; clear h; unfold maxLen at h2
 go_enter Try.func14, Try.ntmps14
 go_wp2; go_ret; exact ⟨rfl, rfl⟩
end Go.Proofs.Ytcbijikalfodnaa.Tms
