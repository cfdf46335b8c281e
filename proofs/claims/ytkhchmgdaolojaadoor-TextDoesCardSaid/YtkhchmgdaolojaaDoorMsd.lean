
/-
  term.walk of the program with (*prolix/term.measure).take as its visitor, walked (printed by gen_walk.py).
  term.measured, Check, Size and Deep of the program walked.
-/
import Derived.Test.YtkhchmgdaolojaaDoorVisit
namespace Go.Proofs.YtkhchmgdaolojaaDoor.Tms
open Go Go.RowKit Go.Proofs.YtkhchmgdaolojaaDoor.Reg Go.Proofs.YtkhchmgdaolojaaDoor.Rws
set_option linter.unusedVariables false

set_option maxHeartbeats 1600000 in
theorem walk_meas (V : Vis) (x0 : Value) (t : Tm) (v : Value) (P : Nat → Prop) (w : World) (hM : t.size ≤ 1000000000) (h : IsTm w P v t) (hP : ∀ b, P b → ¬ V.Mine [] w b) (hs : V.Sig [] w)
    (hcall : ∀ (D : List (Tm × Int)) (p : Tm × Int) (rest : List (Tm × Int)) (va : Value) (P' : Nat → Prop) (W : World), parts 1 t = D ++ p :: rest → V.Sig D W → IsTm W P' va p.1 → (∀ b, P' b → ¬ V.Mine D W b) → 1 ≤ p.2 → p.2 ≤ (t.size : Int) → Calls Tryd.prog 60 #[x0, va, .int .i64 p.2] W (Seen V D p W)) :
    Calls Tryd.prog 59 #[v, .func (.func 60) #[x0] #[]] w fun e w' => e = .returned (.tuple #[]) ∧ V.Sig (parts 1 t) w' ∧ Keeps w w' (V.Mine [] w) ∧ ∀ b, V.Mine (parts 1 t) w' b → V.Mine [] w b ∨ w.heap.size ≤ b := by
  have hl : IsTm w (fun b => b < w.heap.size ∧ ¬ V.Mine [] w b) v t := h.lt.imp (fun b h => ⟨h.2, hP b h.1⟩) fun _ _ _ => rfl
  clear h hP
  have HC := Lib.hid hcall
  clear hcall
  obtain ⟨a, c, rfl⟩ := hl.form
  have HST := Lib.hid (wk_start V t w (fun b => b < w.heap.size ∧ ¬ V.Mine [] w b) a c (fun b h => h.1) hl hs)
  clear hl hs
  go_enter Tryd.func59, Tryd.ntmps59
  go_wp2
  go_loopg [4] t.size (fun k v4 wr => WkRel V t w (fun b => b < w.heap.size ∧ ¬ V.Mine [] w b) k v4 wr)
  case atStart => exact HST.out
  case round =>
    obtain ⟨D, l, g, cap, n, rfl, inv, hp, hk, hkt, hd⟩ := hrel
    clear HST
    rcases nil_or_snoc l with rfl | ⟨l', p, rfl⟩
    · obtain rfl : n = 0 := inv.len.symm
      have hD : parts 1 t = D := by simpa [partsS] using hp
      have INV := Lib.hid inv
      have HD := Lib.hid hD
      clear inv hp hD
      go_wp2
      refine ⟨rfl, .tuple #[], by simp [results, Tryd.results59, go_sem], rfl, ?_⟩
      rw [HD.out]
      exact ⟨INV.out.sig, INV.out.keeps, INV.out.mine⟩
    · obtain ⟨m, rfl⟩ : ∃ m, n = m + 1 := ⟨l'.length, by rw [← inv.len]; simp⟩
      have hm : l'.length = m := by have := inv.len; simpa using this
      obtain ⟨own', hcap, hcm, cs, hR, hcell⟩ := inv.own.pop hm
      obtain ⟨x, d⟩ := p
      obtain ⟨xa, xc, rfl, hargs⟩ := hR
      have x0c := hcell 0 (by decide)
      have x1c := hcell 1 (by decide)
      have x2c := hcell 2 (by decide)
      have x3c := hcell 3 (by decide)
      have x4c := hcell 4 (by decide)
      simp only [abKind, Nat.add_zero, List.getElem?_cons_zero, List.getElem?_cons_succ] at x0c x1c x2c x3c x4c
      have xi : IsTm wr (fun b => b < w.heap.size ∧ ¬ V.Mine [] w b) (.agg #[.int .i64 x.k, .int .i64 x.n, .string x.s, .slice xa x.args.length xc]) x := ⟨xa, xc, rfl, ArgsFrom.imp (fun _ h => h.1) (fun _ _ _ => rfl) _ _ _ hargs⟩
      have hpx : parts 1 t = D ++ (x, d) :: (partsS (x.args.map fun y => (y, d + 1)) ++ partsS l'.reverse) := by
        rw [hp, List.reverse_append, List.reverse_singleton, List.singleton_append]
        show D ++ (parts d x ++ _) = _
        rw [parts_eq]
        simp
      have hdx := hd (x, d) (by simp)
      have hd' : ∀ p ∈ l', 1 ≤ p.2 ∧ p.2 + p.1.size ≤ (t.size : Int) + 1 := fun p hp => hd p (by simp [hp])
      have hsum : sumA l' + x.size ≤ gk := by have := sumA_app l' [(x, d)]; simp only [sumA] at this; omega
      have hxp := size_pos x
      have hd1 : 1 ≤ d := hdx.1
      have hd2 : d + x.size ≤ (t.size : Int) + 1 := hdx.2
      have hbig := inv.big
      have INV := Lib.hid inv
      have OWN := Lib.hid own'
      have XI := Lib.hid xi
      have HM := Lib.hid hm
      have HPX := Lib.hid hpx
      have HD' := Lib.hid hd'
      have hmb : m + 1 ≤ 1000000000 := by have := len_sumA l'; omega
      clear inv own' xi hm hk hp hpx hd hd' hdx hcell hargs
      have hmm : ((m : Int) + 1 - 1) = m := by omega
      have hglt : g < wr.heap.size := (OWN.out.low g rfl).2
      have hb5 := heap_alloc_new wr (.cells #[.int .i64 x.k, .int .i64 x.n, .string x.s, .slice xa x.args.length xc, .int .i64 d] 95 (0, 0))
      have hba : Below wr.heap.size wr (wr.alloc (.cells #[.int .i64 x.k, .int .i64 x.n, .string x.s, .slice xa x.args.length xc, .int .i64 d] 95 (0, 0))) := (Below.refl _ _).alloc (Nat.le_refl _) _
      have hbs : (wr.alloc (.cells #[.int .i64 x.k, .int .i64 x.n, .string x.s, .slice xa x.args.length xc, .int .i64 d] 95 (0, 0))).heap.size = wr.heap.size + 1 := by simp
      have H5 := Lib.hid hb5
      have HBA := Lib.hid hba
      have HBS := Lib.hid hbs
      clear hb5 hba hbs
      have hQm : ∀ (D : List (Tm × Int)) (W : World), (∀ b, V.Mine D W b → V.Mine [] w b ∨ w.heap.size ≤ b) → ∀ b, (b < w.heap.size ∧ ¬ V.Mine [] w b) → ¬ V.Mine D W b := fun D W h b hb hm => (h b hm).elim hb.2 fun hge => by omega
      have HQM := Lib.hid hQm
      clear hQm
      go_wp2_with fail
      have hk1 := V.below INV.out.sig HBA.out
      refine (HC.out D (x, d) _ _ _ _ HPX.out hk1.1 (XI.out.below HBA.out) (HQM.out _ _ fun b hb => INV.out.mine b (hk1.2 b hb)) hd1 (by show d ≤ (t.size : Int); omega)).mono ?_
      rintro e4 w4 ⟨rfl, hs4, hk4, hm4⟩
      have hns : ¬ V.Mine D (wr.alloc (.cells #[.int .i64 x.k, .int .i64 x.n, .string x.s, .slice xa x.args.length xc, .int .i64 d] 95 (0, 0))) wr.heap.size := fun h => by have := V.low INV.out.sig (hk1.2 _ h); omega
      have hng : ¬ V.Mine D (wr.alloc (.cells #[.int .i64 x.k, .int .i64 x.n, .string x.s, .slice xa x.args.length xc, .int .i64 d] 95 (0, 0))) g := fun h => INV.out.notg (hk1.2 _ h)
      have hz1 := HBS.out
      have hb54 := (hk4.block wr.heap.size (by omega) hns).trans H5.out
      have hs4' : wr.heap.size + 1 ≤ w4.heap.size := by have := hk4.size; omega
      have hmine4 : ∀ b, V.Mine (D ++ [(x, d)]) w4 b → V.Mine [] w b ∨ w.heap.size ≤ b := fun b hb => by
        rcases hm4 b hb with h | h
        · exact INV.out.mine b (hk1.2 b h)
        · exact .inr (by omega)
      have hkp : Keeps w w4 (V.Mine [] w) := INV.out.keeps.trans ((Keeps.of HBA.out (M := V.Mine D wr)).trans hk4 fun b hb => .inl (hk1.2 b hb)) INV.out.mine
      have hng4 : ¬ V.Mine (D ++ [(x, d)]) w4 g := fun h => by
        rcases hm4 g h with h | h
        · exact hng h
        · omega
      have hblk : ∀ b, b < wr.heap.size → ¬ V.Mine D wr b → w4.heap[b]? = wr.heap[b]? := fun b hb hn => (hk4.block b (by omega) fun h => hn (hk1.2 b h)).trans (HBA.out.block b hb)
      have hown4 := OWN.out.keep (w' := w4) (by omega) fun b hb h => hblk b hb (by
        rcases h with h | h
        · exact HQM.out D wr INV.out.mine b h
        · have : g = b := Option.some.inj (show some g = some b from h)
          rw [← this]
          exact INV.out.notg)
      have hxi4 := XI.out.lt.imp (w' := w4) (P' := fun b => b < w.heap.size ∧ ¬ V.Mine [] w b) (fun b h => h.1) fun b h hb => hblk b hb (HQM.out D wr INV.out.mine b h.1)
      have hsx : sizeL x.args + 1 = x.size := by obtain ⟨k1, n1, s1, a1⟩ := x; simp [Tm.size, Tm.args]
      have hxs : x.args.length ≤ 1000000000 := by have := len_le x.args; omega
      have hgne : g ≠ wr.heap.size := by omega
      have f3 : w4.cell? ⟨wr.heap.size, 3, none⟩ = some (.slice xa x.args.length xc) := cell_of_row w4 _ 3 _ _ _ hb54
      have hin : WkInRel V w (fun b => b < w.heap.size ∧ ¬ V.Mine [] w b) (D ++ [(x, d)]) wr.heap.size x d xa xc l' (.slice (some ⟨g, 0, none⟩) m cap) (.int .i64 ((x.args.length : Int) - 1)) w4 :=
        ⟨x.args.length, g, cap, m, Nat.le_refl _, rfl, rfl, by rw [HM.out]; omega, by rw [List.drop_of_length_le (by omega)]; simpa using hown4, hkp, hs4, hmine4, hng4, hb54, hgne, ⟨hbig, by omega⟩, hxi4⟩
      have HIN := Lib.hid hin
      have HSX := Lib.hid hsx
      clear hin hsx hxi4 hown4 hblk hng4 hkp hmine4 hb54 hng hns hs4 hk4 hm4 hk1 x0c x1c x2c x3c x4c H5 HBA HBS OWN XI INV hz1
      go_wp2
      clear f3
      generalize wr.heap.size = s5 at *
      go_loopw [4, 6] (fun v4 v6 w5 => WkInRel V w (fun b => b < w.heap.size ∧ ¬ V.Mine [] w b) (D ++ [(x, d)]) s5 x d xa xc l' v4 v6 w5) (fun _ v6 _ => (intOf v6 + 1).toNat)
      case atStart => exact HIN.out
      case round =>
        obtain ⟨q, g5, cap5, n5, hq, rfl, rfl, ci⟩ := hrel
        clear HIN
        rcases q with _ | r
        · have CI := Lib.hid ci
          clear ci
          go_wp2
          go_roundg (gk - 1)
          case measure => omega
          case rel =>
            have c := CI.out
            have ho := c.own
            rw [List.drop_zero] at ho
            refine ⟨D ++ [(x, d)], l' ++ (x.args.map fun y => (y, d + 1)).reverse, g5, cap5, n5, rfl, ⟨?_, ho, c.keeps, by have := c.low; omega, c.sig, c.mine, c.notg⟩, ?_, ?_, by omega, ?_⟩
            · have := c.len; simp; omega
            · rw [HPX.out, List.reverse_append, List.reverse_reverse, partsS_app]
              simp
            · rw [sumA_app, sumA_rev, sumA_map]
              have := HSX.out
              omega
            · intro p hp
              rcases List.mem_append.1 hp with hp | hp
              · exact HD'.out p hp
              · rw [List.mem_reverse] at hp
                obtain ⟨y, hy, rfl⟩ := List.mem_map.1 hp
                have h1 := mem_sizeL hy
                have h2 := HSX.out
                exact ⟨by show 1 ≤ d + 1; omega, by show d + 1 + (y.size : Int) ≤ _; omega⟩
        · have e8 : (((r + 1 : Nat) : Int) - 1) = r := by omega
          rw [e8]
          clear e8
          obtain ⟨xb, xo, rfl, -, xt⟩ := ci.xi.args.at r hq
          obtain ⟨pa, pc, y0, y1, y2, y3, yri, -⟩ := xt.read
          have f3 : wr.cell? ⟨s5, 3, none⟩ = some (.slice (some ⟨xb, xo, none⟩) x.args.length xc) := cell_of_row wr _ 3 _ _ _ ci.box
          have f4 : wr.cell? ⟨s5, 4, none⟩ = some (.int .i64 d) := cell_of_row wr _ 4 _ _ _ ci.box
          have hdr : x.args.drop r = x.args[r] :: x.args.drop (r + 1) := List.drop_eq_getElem_cons hq
          have HDR := Lib.hid hdr
          have CI := Lib.hid ci
          have YRI := Lib.hid yri
          have hri : (r : Int) < (x.args.length : Int) := by omega
          have hd3 : d ≤ 1000000000 := by have h4 : t.size ≤ 1000000000 := hM; omega
          clear hdr ci yri xt
          generalize x.args[r] = xr at *
          go_wp2
          refine wp_region_rest (by kernel_rfl) ?_
          have hdw : Below wr.heap.size wr wr.drew := (Below.refl _ _).drew
          replace f3 := (hdw.cell (p := ⟨s5, 3, none⟩) CI.out.low.2).trans f3
          replace f4 := (hdw.cell (p := ⟨s5, 4, none⟩) CI.out.low.2).trans f4
          replace y0 := (hdw.cell (p := ⟨xb, xo + r * 4, none⟩) (World.block_lt_of_cell? _ _ y0)).trans y0
          replace y1 := (hdw.cell (p := ⟨xb, xo + r * 4 + 1, none⟩) (World.block_lt_of_cell? _ _ y1)).trans y1
          replace y2 := (hdw.cell (p := ⟨xb, xo + r * 4 + 2, none⟩) (World.block_lt_of_cell? _ _ y2)).trans y2
          replace y3 := (hdw.cell (p := ⟨xb, xo + r * 4 + 3, none⟩) (World.block_lt_of_cell? _ _ y3)).trans y3
          have hd0 : wr.drew.heap.size = wr.heap.size := rfl
          generalize wr.drew = W0 at *
          have HD0 := Lib.hid hd0
          clear hd0
          refine rest_chain 0 12 [(false, [0, 1, 2, 3, 4, 5, 6, 7, 8, 9, 10]), (true, [11])] [(false, [_, _, _, _, _, _, _, _, _, _, _]), (true, [_])] rfl (by kernel_rfl) (by kernel_rfl) rfl (by kernel_rfl) (by kernel_rfl) (.inr (by kernel_rfl)) ?_
          refine chain_soft ?_
          intro E hE
          go_wp2
          clear f3 f4 y0 y1 y2 y3
          refine chain_one ?_
          intro E hE
          go_wp2
          refine ⟨(Below.refl _ _).alloc (Nat.le_refl _) _, ?_⟩
          refine chain_nil ?_
          have hci := CI.out
          have hbw : Below wr.heap.size wr (W0.alloc (.cells #[.int .i64 xr.k, .int .i64 xr.n, .string xr.s, .slice pa xr.args.length pc, .int .i64 (d + 1)] 95 (0, 0))) := hdw.alloc (by have := HD0.out; omega) _
          have hrow := heap_alloc_new W0 (.cells #[.int .i64 xr.k, .int .i64 xr.n, .string xr.s, .slice pa xr.args.length pc, .int .i64 (d + 1)] 95 (0, 0))
          have hu1 : (W0.alloc (.cells #[.int .i64 xr.k, .int .i64 xr.n, .string xr.s, .slice pa xr.args.length pc, .int .i64 (d + 1)] 95 (0, 0))).heap.size = W0.heap.size + 1 := by simp
          generalize W0.alloc (.cells #[.int .i64 xr.k, .int .i64 xr.n, .string xr.s, .slice pa xr.args.length pc, .int .i64 (d + 1)] 95 (0, 0)) = u at *
          have hk1 := V.below hci.sig hbw
          have hu2 : wr.heap.size + 1 ≤ u.heap.size := by have := HD0.out; omega
          clear hu1
          have HOWN := Lib.hid (hci.own.below hbw)
          have HKP := Lib.hid (hci.keeps.trans (Keeps.of hbw (M := V.Mine (D ++ [(x, d)]) wr)) hci.mine)
          have HSIG := Lib.hid hk1.1
          have HMINE : Hid (∀ b, V.Mine (D ++ [(x, d)]) u b → V.Mine [] w b ∨ w.heap.size ≤ b) := Lib.hid fun b hb => hci.mine b (hk1.2 b hb)
          have HNOTG : Hid (¬ V.Mine (D ++ [(x, d)]) u g5) := Lib.hid fun h => hci.notg (hk1.2 _ h)
          have HBX := Lib.hid ((hbw.block _ hci.low.2).trans hci.box)
          have HXI := Lib.hid (hci.xi.below hbw)
          have hlow := hci.low
          have HNE := Lib.hid hci.ne
          have HLEN := Lib.hid hci.len
          have hg5 := (hci.own.low g5 rfl)
          have YR : Hid (abKind.R u (fun b => (b < w.heap.size ∧ ¬ V.Mine [] w b) ∧ Value.ownBlock (.slice (some ⟨g5, 0, none⟩) n5 cap5) ≠ some b) [.int .i64 xr.k, .int .i64 xr.n, .string xr.s, .slice pa xr.args.length pc, .int .i64 (d + 1)] (xr, d + 1)) := by
            obtain ⟨a', c', e, h'⟩ := YRI.out.below hbw
            simp at e
            obtain ⟨rfl, rfl⟩ := e
            exact Lib.hid ⟨pa, pc, rfl, ArgsFrom.imp (fun b h => ⟨h, fun e => by have h2 : g5 = b := Option.some.inj (show some g5 = some b from e); have h1 := h.1; have := hg5.1; omega⟩) (fun _ _ _ => rfl) _ _ _ h'⟩
          have HROW := Lib.hid hrow
          have hlL : (l' ++ ((x.args.drop (r + 1)).map fun t => (t, d + 1)).reverse).length ≤ 1000000000 := by
            have h0 := HM.out
            have h1 := len_sumA l'
            have h2 := len_le x.args
            have h3 := HSX.out
            have h4 : t.size ≤ 1000000000 := hM
            simp
            omega
          have hbase : w.heap.size + 1 ≤ u.heap.size := by omega
          clear hci hbw hrow hk1 CI YRI
          refine rest_lineL 12 14 [_, _] rfl (by kernel_rfl) (by decide) (by decide) (by kernel_rfl) ?_
          go_wp2_with (
            (with_reducible show wpList _ _ _ (⟨some 51, _, _, _, _, _⟩ :: _) _ _
             refine wpList_put (K := abKind) rfl (.tmp 39) (.tmp 50) _ rfl Tryd.underlying96 info_above rfl (w.heap.size + 1) _ _ _ _ (xr, d + 1) W0.heap.size _ _ _ rfl HOWN.out rfl HROW.out YR.out (by unfold maxLen; omega) (by omega) hbase ?_
             intro v3 w3 hown hb3 hgr hv3
             have el : (l' ++ ((x.args.drop (r + 1)).map fun t => (t, d + 1)).reverse ++ [(xr, d + 1)]) = l' ++ ((x.args.drop r).map fun t => (t, d + 1)).reverse := by rw [HDR.out, List.map_cons, List.reverse_cons, List.append_assoc]
             have en : (l' ++ ((x.args.drop r).map fun t => (t, d + 1)).reverse).length = n5 + 1 := by have h1 := HLEN.out; have h2 := HM.out; simp; omega
             rw [el] at hown
             obtain ⟨g9, c9, e9⟩ : ∃ g9 c9, v3 = .slice (some ⟨g9, 0, none⟩) (n5 + 1) c9 := by
               rcases hown.form with h | ⟨g9, c9, e9⟩
               · exfalso; have := congrArg List.length h.2; rw [en] at this; simp at this
               · exact ⟨g9, c9, by rw [e9, en]⟩
             subst e9
             have hnew : WkIn V w (fun b => b < w.heap.size ∧ ¬ V.Mine [] w b) (D ++ [(x, d)]) s5 x d (some ⟨xb, xo, none⟩) xc l' r g9 c9 (n5 + 1) w3 := by
               have hv9 : g9 = g5 ∨ u.heap.size ≤ g9 := by
                 rcases hv3 g9 rfl with h | h
                 · exact .inl (Option.some.inj (show some g5 = some g9 from h)).symm
                 · exact .inr h
               have hne9 : g9 ≠ s5 := fun e => by
                 rcases hv9 with h | h
                 · exact HNE.out (h.symm.trans e)
                 · omega
               have hg := hgr
               have hk3 := V.keep HSIG.out hg.size fun b hb hm => hg.block b hb fun e => HNOTG.out (by have : b = g5 := Option.some.inj (show some b = some g5 from e); rw [← this]; exact hm)
               refine ⟨by have h1 := HLEN.out; omega, hown, ?_, hk3.1, fun b hb => HMINE.out b (hk3.2 b hb), fun hm => ?_, (hgr.block _ (by omega) (fun e => HNE.out (Option.some.inj (show some g5 = some s5 from e.symm)))).trans HBX.out, hne9, ⟨hlow.1, by have := hgr.size; omega⟩, ?_⟩
               · exact HKP.out.trans (Keeps.grown (M := fun b => b = g5) hg fun b e => .inl (Option.some.inj (show some g5 = some b from e)).symm) fun b e => .inr (by rw [e]; omega)
               · have hm' := hk3.2 _ hm
                 rcases hv9 with h | h
                 · rw [h] at hm'; exact HNOTG.out hm'
                 · have := V.low HSIG.out hm'; omega
               · exact HXI.out.imp (fun _ h => h) fun b h _ => hb3.block b (by have := h.1; omega)
             have HNEW := Lib.hid hnew
             clear hnew hown hb3 hgr hv3 el en))
          refine then_rest (rest_end (by decide) ?_)
          go_wp2
          go_roundw
          case rel => exact ⟨r, g9, c9, n5 + 1, by omega, rfl, rfl, HNEW.out⟩
          case measure => simp [intOf]
end Go.Proofs.YtkhchmgdaolojaaDoor.Tms
namespace Go.Proofs.YtkhchmgdaolojaaDoor.Tms
open Go Go.RowKit Go.Proofs.YtkhchmgdaolojaaDoor.Reg Go.Proofs.YtkhchmgdaolojaaDoor.Rws
set_option linter.unusedVariables false

abbrev ms0 : Bool × Int × Int := (false, 0, 0)
theorem meas_len (st : Bool × Int × Int) : ∀ l, (meas st l).2.1 = st.2.1 + l.length := by
  intro l
  induction l generalizing st with
  | nil => simp [meas]
  | cons p l ih => simp only [meas, ih, List.length_cons]; omega
mutual
theorem parts_len : ∀ (d : Int) (t : Tm), (parts d t).length = t.size
  | d, .mk k n s a => by simp [parts, Tm.size, partsL_len (d + 1) a]
theorem partsL_len : ∀ (d : Int) (l : List Tm), (partsL d l).length = sizeL l
  | d, [] => by simp [partsL, sizeL]
  | d, t :: l => by simp [partsL, sizeL, parts_len d t, partsL_len d l]
end
abbrev msO (st : Bool × Int × Int) : Obj := .cells #[.bool st.1, .int .i64 st.2.1, .int .i64 st.2.2] 66 (0, 0)
def msVis (mb : Nat) : Vis where
  Sig := fun D W => W.heap[mb]? = some (msO (meas ms0 D))
  Mine := fun _ _ b => b = mb
  keep := fun {D W W'} h _ hk => ⟨(hk mb (Array.getElem?_eq_some_iff.1 h).1 rfl).trans h, fun _ h => h⟩
  low := fun {D W b} h e => by subst e; exact (Array.getElem?_eq_some_iff.1 h).1

theorem size_measure : (Tryd.prog.info? 66).map (·.size) = some 3 := by kernel_rfl
/-- what measure is told of a term -/
def msT (t : Tm) : Bool × Int × Int := meas ms0 (parts 1 t)
abbrev msV (t : Tm) : Value := .agg #[.bool (msT t).1, .int .i64 (msT t).2.1, .int .i64 (msT t).2.2]

theorem args_le {D rest : List (Tm × Int)} {p : Tm × Int} : ∀ {t : Tm} {d : Int}, parts d t = D ++ p :: rest → p.1.args.length ≤ t.size := by
  have key : ∀ N, (∀ (t : Tm) (d : Int) (p : Tm × Int), t.size ≤ N → p ∈ parts d t → p.1.size ≤ t.size) := by
    intro N
    induction N with
    | zero => intro t d p h; have := size_pos t; omega
    | succ N ih =>
      intro t d p hN hp
      rw [parts_eq] at hp
      rcases List.mem_cons.1 hp with rfl | hp
      · exact Nat.le_refl _
      · have hs : ∀ (l : List (Tm × Int)), p ∈ partsS l → ∃ q ∈ l, p ∈ parts q.2 q.1 := by
          intro l
          induction l with
          | nil => intro h; simp [partsS] at h
          | cons q l ihl =>
            intro h
            rcases List.mem_append.1 h with h | h
            · exact ⟨q, List.mem_cons_self .., h⟩
            · obtain ⟨q', h1, h2⟩ := ihl h
              exact ⟨q', List.mem_cons_of_mem _ h1, h2⟩
        obtain ⟨q, hq, hpq⟩ := hs _ hp
        obtain ⟨y, hy, rfl⟩ := List.mem_map.1 hq
        have h1 := mem_sizeL hy
        have h2 : sizeL t.args + 1 = t.size := by obtain ⟨k1, n1, s1, a1⟩ := t; simp [Tm.size, Tm.args]
        have := ih y _ p (by omega) hpq
        omega
  intro t d h
  have := key _ t d p (Nat.le_refl _) (by rw [h]; simp)
  have h2 : sizeL p.1.args + 1 = p.1.size := by obtain ⟨⟨k1, n1, s1, a1⟩, q⟩ := p; simp [Tm.size, Tm.args]
  have := len_le p.1.args
  omega

theorem tm_measured (t : Tm) (v : Value) (P : Nat → Prop) (w : World) (hM : t.size ≤ 1000000000) (h : IsTm w P v t) :
    Calls Tryd.prog 34 #[v] w fun e w' => e = .returned (msV t) ∧ Below w.heap.size w w' := by
  have hl := h.lt
  clear h
  obtain ⟨a, c, rfl⟩ := hl.form
  have hw := walk_meas
  have W := Lib.hid hw
  have HL := Lib.hid hl
  clear hw hl
  go_enter Tryd.func34, Tryd.ntmps34
  go_wp2_with fail
  have hb : Below w.heap.size w (((w.alloc (.cells #[.int .i64 t.k, .int .i64 t.n, .string t.s, .slice a t.args.length c] 28 (0, 0))).alloc (msO ms0)).alloc (msO ms0)) := (((Below.refl _ _).alloc (Nat.le_refl _) _).alloc (by simp) _).alloc (by simp; omega) _
  have h2 : (((w.alloc (.cells #[.int .i64 t.k, .int .i64 t.n, .string t.s, .slice a t.args.length c] 28 (0, 0))).alloc (msO ms0)).alloc (msO ms0)).heap[w.heap.size + 1]? = some (msO ms0) := (by have := heap_alloc2_old (w.alloc (.cells #[.int .i64 t.k, .int .i64 t.n, .string t.s, .slice a t.args.length c] 28 (0, 0))) (msO ms0) (msO ms0); simpa using this)
  have h3 : (((w.alloc (.cells #[.int .i64 t.k, .int .i64 t.n, .string t.s, .slice a t.args.length c] 28 (0, 0))).alloc (msO ms0)).alloc (msO ms0)).heap[w.heap.size + 1 + 1]? = some (msO ms0) := by have := heap_alloc2_new (w.alloc (.cells #[.int .i64 t.k, .int .i64 t.n, .string t.s, .slice a t.args.length c] 28 (0, 0))) (msO ms0) (msO ms0); simpa using this
  have hz : (((w.alloc (.cells #[.int .i64 t.k, .int .i64 t.n, .string t.s, .slice a t.args.length c] 28 (0, 0))).alloc (msO ms0)).alloc (msO ms0)).heap.size = w.heap.size + 3 := by simp
  generalize ((w.alloc (.cells #[.int .i64 t.k, .int .i64 t.n, .string t.s, .slice a t.args.length c] 28 (0, 0))).alloc (msO ms0)).alloc (msO ms0) = W3 at *
  refine (W.out (msVis (w.heap.size + 1 + 1)) _ t _ _ _ hM (HL.out.below hb) (fun b h e => by have h1 := h.2; have h2 : b = w.heap.size + 1 + 1 := e; omega) h3 ?_).mono ?_
  · intro D p rest va P' W hp hs hi hq h1 h2
    obtain ⟨a', c', rfl⟩ := hi.form
    have hl := parts_len 1 t
    rw [hp] at hl
    simp only [List.length_append, List.length_cons] at hl
    have h0 : (meas ms0 D).2.1 = D.length := by rw [meas_len]; simp
    refine (tm_take (w.heap.size + 1 + 1) (meas ms0 D).1 (meas ms0 D).2.1 (meas ms0 D).2.2 p.2 p.1.k p.1.n p.1.s a' p.1.args.length c' W (by have := args_le hp; omega) (by omega) (by omega) hs).mono ?_
    rintro e w' ⟨rfl, hh, hg⟩
    exact ⟨rfl, by show w'.heap[w.heap.size + 1 + 1]? = some (msO (meas ms0 (D ++ [p]))); rw [meas_app]; exact hh, Keeps.grown hg fun b e => .inl (Option.some.inj e).symm, fun b h => .inl h⟩
  rintro e4 w4 ⟨rfl, hs4, hk4, -⟩
  have hz4 : w4.heap[w.heap.size + 1]? = some (msO ms0) := (hk4.block _ (by omega) (fun e => by have h2 : w.heap.size + 1 = w.heap.size + 1 + 1 := e; omega)).trans h2
  have hb4 : Below w.heap.size w w4 := hb.trans ⟨hk4.os, hk4.tape, hk4.output, hk4.size, fun b hb => hk4.block b (by omega) fun e => by have h2 : b = w.heap.size + 1 + 1 := e; omega⟩
  have y0 : w4.cell? ⟨w.heap.size + 1 + 1, 0, none⟩ = some (.bool (msT t).1) := cell_of_row w4 _ 0 _ _ _ hs4
  have y1 : w4.cell? ⟨w.heap.size + 1 + 1, 1, none⟩ = some (.int .i64 (msT t).2.1) := cell_of_row w4 _ 1 _ _ _ hs4
  have y2 : w4.cell? ⟨w.heap.size + 1 + 1, 2, none⟩ = some (.int .i64 (msT t).2.2) := cell_of_row w4 _ 2 _ _ _ hs4
  have HZ := Lib.hid hz4
  have HB := Lib.hid hb4
  clear hz4 hb4 hs4 hk4 h2 h3 hb hz W HL
  go_wp2_with (refine wpList_store_row rfl 66 (.tmp 2) (.tmp 7) rfl (w.heap.size + 1) #[.bool (msT t).1, .int .i64 (msT t).2.1, .int .i64 (msT t).2.2] rfl rfl _ _ HZ.out size_measure rfl (by simp [Value.oneCell']) ?_)
  have hz := setRow_heap w4 (w.heap.size + 1) _ (#[.bool (msT t).1, .int .i64 (msT t).2.1, .int .i64 (msT t).2.2] : Array Value) _ _ HZ.out
  exact bodyPost_ret (v := msV t) (results_cell_row Tryd.results34 _ _ (w.heap.size + 1) _ _ _ _ rfl hz Tryd.underlying66 rfl (by kernel_rfl)) rfl ⟨rfl, HB.out.trans ⟨rfl, rfl, rfl, by simp, fun k hk => setRow_other _ _ _ _ (by omega)⟩⟩

/-- what is wrong with a term -/
def checkT (t : Tm) : Int := if (msT t).1 = true then 2 else if 2000 < (msT t).2.2 then 4 else if 20000 < (msT t).2.1 then 3 else 0
theorem tm_Check (t : Tm) (v : Value) (P : Nat → Prop) (w : World) (hM : t.size ≤ 1000000000) (h : IsTm w P v t) :
    Calls Tryd.prog 23 #[v] w fun e w' => e = .returned (.int .i64 (checkT t)) ∧ Below w.heap.size w w' := by
  have hl := h.lt
  clear h
  obtain ⟨a, c, rfl⟩ := hl.form
  have HL := Lib.hid hl
  have hb := (Below.refl w.heap.size w).alloc (Nat.le_refl _) (.cells #[.int .i64 t.k, .int .i64 t.n, .string t.s, .slice a t.args.length c] 28 (0, 0))
  have HB := Lib.hid hb
  clear hl hb
  have hc : checkT t = if (msT t).1 = true then 2 else if 2000 < (msT t).2.2 then 4 else if 20000 < (msT t).2.1 then 3 else 0 := rfl
  have hm : ∀ W P, IsTm W P (.agg #[.int .i64 t.k, .int .i64 t.n, .string t.s, .slice a t.args.length c]) t → Calls Tryd.prog 34 #[.agg #[.int .i64 t.k, .int .i64 t.n, .string t.s, .slice a t.args.length c]] W fun e w' => e = .returned (.agg #[.bool (msT t).1, .int .i64 (msT t).2.1, .int .i64 (msT t).2.2]) ∧ Below W.heap.size W w' := fun W P h => tm_measured t _ _ _ hM h
  have HMS := Lib.hid hm
  clear hm
  generalize (msT t).1 = b at *
  generalize (msT t).2.2 = dp at *
  generalize (msT t).2.1 = sz at *
  rw [hc]
  clear hc
  cases b
  all_goals try (by_cases h1 : 2000 < dp)
  all_goals try (by_cases h2 : 20000 < sz)
  all_goals
    go_enter Tryd.func23, Tryd.ntmps23
    go_wp2_with (refine (HMS.out _ _ (HL.out.below HB.out)).mono ?_; rintro e1 w1 ⟨rfl, hb1⟩; have HB1 := Lib.hid (HB.out.trans (hb1.mono (by simp))); clear hb1)
    go_ret
    exact ⟨by simp [*], HB1.out.alloc HB1.out.size _⟩
end Go.Proofs.YtkhchmgdaolojaaDoor.Tms
