/-
  term.walk of the program with (*prolix/term.measure).take as its visitor, walked (printed by gen_walk.py).
  term.measured, Check, Size and Deep of the program walked.
  Slices of numbers: as a call keeps them, and as they are read.
  What term.seen keeps (the numbers that came, and where each stands), and its methods number and take, walked.
  term.seen's number and take of the program walked.
  term.walk of the program with (*prolix/term.seen).take as its visitor, walked (printed by gen_walk.py).
  term.seen's take, and term.Vars, of the program walked.
  Terms renamed, their parts in order, their variables numbered: plain.
  The reference's parts of terms: a slice of them in memory; what Of makes of them.
  How an argument of the reference's parts is read: parts in memory.
  The reference's Of walked over the program.
  The reference's Mend, Good and Great walked over the program.
  What measure is told of a term, by recursion on the term: whether all its parts may be, its size, its depth. Plain.
  What is made good may be, in plain Lean.
  term.compare of the program (two parts, but for their Args), walked; cmp.Compare of numbers.
  A stack of pairs of terms that the call itself keeps: what it owns, and what it reads as. The order of terms, plain.
  term.Compare of the program walked: the order of terms.
  The order of terms, plain: an order, in which just the same terms stand with one another.
  TermNumbers, the plain law: numbered twice is numbered once; the numbers are 0, 1 and so on; size and depth stay.
  Layer 19: a clause's code in plain Lean; variables of other numbers come to the same code. No program stands here.
  A map of numbers to numbers, by what its entries say in their order: a look, a store, its length, a new one. Plain laws over any program.
  Maps of numbers to numbers whose entries' birth marks are told apart: a store, clear, and the range over one in whatever order. Plain laws over any program.
-/
import Derived.Test.YtcbijikalfodnaaG02
import Derived.Test.YtcbijikalfodnaaRows
import Derived.ProofKit
import Derived.OpenShut
import Derived.ShutString
import Derived.ChangeOld
import Derived.ChangeMaps5
import Derived.Deep.Slices
import Derived.Deep.Fields
import Derived.ChangeSame
import Derived.Test.YtcbijikalfodnaaShl
import Derived.Lib.Bytealg
import Derived.Maps.RangeRun
namespace Go.Proofs.Ytcbijikalfodnaa.Tms
open Go Go.RowKit Go.Proofs.Ytcbijikalfodnaa.Reg Go.Proofs.Ytcbijikalfodnaa.Rws
set_option linter.unusedVariables false

set_option maxHeartbeats 1600000 in
theorem walk_meas (V : Vis) (x0 : Value) (t : Tm) (v : Value) (P : Nat → Prop) (w : World) (hM : t.size ≤ 1000000000) (h : IsTm w P v t) (hP : ∀ b, P b → ¬ V.Mine [] w b) (hs : V.Sig [] w)
    (hcall : ∀ (D : List (Tm × Int)) (p : Tm × Int) (rest : List (Tm × Int)) (va : Value) (P' : Nat → Prop) (W : World), parts 1 t = D ++ p :: rest → V.Sig D W → IsTm W P' va p.1 → (∀ b, P' b → ¬ V.Mine D W b) → 1 ≤ p.2 → p.2 ≤ (t.size : Int) → Calls Try.prog 70 #[x0, va, .int .i64 p.2] W (Seen V D p W)) :
    Calls Try.prog 69 #[v, .func (.func 70) #[x0] #[]] w fun e w' => e = .returned (.tuple #[]) ∧ V.Sig (parts 1 t) w' ∧ Keeps w w' (V.Mine [] w) ∧ ∀ b, V.Mine (parts 1 t) w' b → V.Mine [] w b ∨ w.heap.size ≤ b := by
  have hl : IsTm w (fun b => b < w.heap.size ∧ ¬ V.Mine [] w b) v t := h.lt.imp (fun b h => ⟨h.2, hP b h.1⟩) fun _ _ _ => rfl
  clear h hP
  have HC := Lib.hid hcall
  clear hcall
  obtain ⟨a, c, rfl⟩ := hl.form
  have HST := Lib.hid (wk_start V t w (fun b => b < w.heap.size ∧ ¬ V.Mine [] w b) a c (fun b h => h.1) hl hs)
  clear hl hs
  go_enter Try.func69, Try.ntmps69
  go_wp2
  go_loopg [4] t.size (fun k v4 wr => WkRel V t w (fun b => b < w.heap.size ∧ ¬ V.Mine [] w b) k v4 wr)
  case atStart => exact HST.out
  case round =>
    obtain ⟨D, l, g, cap, n, rfl, inv, hp, hk, hkt, hd⟩ := hrel
    clear HST
    rcases nil_or_snoc l with rfl | ⟨l', p, rfl⟩
    · obtain rfl : n = 0 := inv.len.symm
      have hD : parts 1 t = D := by simpa [partsS] using hp
      have INV := Lib.hid inv
      have HD := Lib.hid hD
      clear inv hp hD
      go_wp2
      refine ⟨rfl, .tuple #[], by simp [results, Try.results69, go_sem], rfl, ?_⟩
      rw [HD.out]
      exact ⟨INV.out.sig, INV.out.keeps, INV.out.mine⟩
    · obtain ⟨m, rfl⟩ : ∃ m, n = m + 1 := ⟨l'.length, by rw [← inv.len]; simp⟩
      have hm : l'.length = m := by have := inv.len; simpa using this
      obtain ⟨own', hcap, hcm, cs, hR, hcell⟩ := inv.own.pop hm
      obtain ⟨x, d⟩ := p
      obtain ⟨xa, xc, rfl, hargs⟩ := hR
      have x0c := hcell 0 (by decide)
      have x1c := hcell 1 (by decide)
      have x2c := hcell 2 (by decide)
      have x3c := hcell 3 (by decide)
      have x4c := hcell 4 (by decide)
      simp only [abKind, Nat.add_zero, List.getElem?_cons_zero, List.getElem?_cons_succ] at x0c x1c x2c x3c x4c
      have xi : IsTm wr (fun b => b < w.heap.size ∧ ¬ V.Mine [] w b) (.agg #[.int .i64 x.k, .int .i64 x.n, .string x.s, .slice xa x.args.length xc]) x := ⟨xa, xc, rfl, ArgsFrom.imp (fun _ h => h.1) (fun _ _ _ => rfl) _ _ _ hargs⟩
      have hpx : parts 1 t = D ++ (x, d) :: (partsS (x.args.map fun y => (y, d + 1)) ++ partsS l'.reverse) := by
        rw [hp, List.reverse_append, List.reverse_singleton, List.singleton_append]
        show D ++ (parts d x ++ _) = _
        rw [parts_eq]
        simp
      have hdx := hd (x, d) (by simp)
      have hd' : ∀ p ∈ l', 1 ≤ p.2 ∧ p.2 + p.1.size ≤ (t.size : Int) + 1 := fun p hp => hd p (by simp [hp])
      have hsum : sumA l' + x.size ≤ gk := by have := sumA_app l' [(x, d)]; simp only [sumA] at this; omega
      have hxp := size_pos x
      have hd1 : 1 ≤ d := hdx.1
      have hd2 : d + x.size ≤ (t.size : Int) + 1 := hdx.2
      have hbig := inv.big
      have INV := Lib.hid inv
      have OWN := Lib.hid own'
      have XI := Lib.hid xi
      have HM := Lib.hid hm
      have HPX := Lib.hid hpx
      have HD' := Lib.hid hd'
      have hmb : m + 1 ≤ 1000000000 := by have := len_sumA l'; omega
      clear inv own' xi hm hk hp hpx hd hd' hdx hcell hargs
      have hmm : ((m : Int) + 1 - 1) = m := by omega
      have hglt : g < wr.heap.size := (OWN.out.low g rfl).2
      have hb5 := heap_alloc_new wr (.cells #[.int .i64 x.k, .int .i64 x.n, .string x.s, .slice xa x.args.length xc, .int .i64 d] 150 (0, 0))
      have hba : Below wr.heap.size wr (wr.alloc (.cells #[.int .i64 x.k, .int .i64 x.n, .string x.s, .slice xa x.args.length xc, .int .i64 d] 150 (0, 0))) := (Below.refl _ _).alloc (Nat.le_refl _) _
      have hbs : (wr.alloc (.cells #[.int .i64 x.k, .int .i64 x.n, .string x.s, .slice xa x.args.length xc, .int .i64 d] 150 (0, 0))).heap.size = wr.heap.size + 1 := by simp
      have H5 := Lib.hid hb5
      have HBA := Lib.hid hba
      have HBS := Lib.hid hbs
      clear hb5 hba hbs
      have hQm : ∀ (D : List (Tm × Int)) (W : World), (∀ b, V.Mine D W b → V.Mine [] w b ∨ w.heap.size ≤ b) → ∀ b, (b < w.heap.size ∧ ¬ V.Mine [] w b) → ¬ V.Mine D W b := fun D W h b hb hm => (h b hm).elim hb.2 fun hge => by omega
      have HQM := Lib.hid hQm
      clear hQm
      go_wp2_with fail
      have hk1 := V.below INV.out.sig HBA.out
      refine (HC.out D (x, d) _ _ _ _ HPX.out hk1.1 (XI.out.below HBA.out) (HQM.out _ _ fun b hb => INV.out.mine b (hk1.2 b hb)) hd1 (by show d ≤ (t.size : Int); omega)).mono ?_
      rintro e4 w4 ⟨rfl, hs4, hk4, hm4⟩
      have hns : ¬ V.Mine D (wr.alloc (.cells #[.int .i64 x.k, .int .i64 x.n, .string x.s, .slice xa x.args.length xc, .int .i64 d] 150 (0, 0))) wr.heap.size := fun h => by have := V.low INV.out.sig (hk1.2 _ h); omega
      have hng : ¬ V.Mine D (wr.alloc (.cells #[.int .i64 x.k, .int .i64 x.n, .string x.s, .slice xa x.args.length xc, .int .i64 d] 150 (0, 0))) g := fun h => INV.out.notg (hk1.2 _ h)
      have hz1 := HBS.out
      have hb54 := (hk4.block wr.heap.size (by omega) hns).trans H5.out
      have hs4' : wr.heap.size + 1 ≤ w4.heap.size := by have := hk4.size; omega
      have hmine4 : ∀ b, V.Mine (D ++ [(x, d)]) w4 b → V.Mine [] w b ∨ w.heap.size ≤ b := fun b hb => by
        rcases hm4 b hb with h | h
        · exact INV.out.mine b (hk1.2 b h)
        · exact .inr (by omega)
      have hkp : Keeps w w4 (V.Mine [] w) := INV.out.keeps.trans ((Keeps.of HBA.out (M := V.Mine D wr)).trans hk4 fun b hb => .inl (hk1.2 b hb)) INV.out.mine
      have hng4 : ¬ V.Mine (D ++ [(x, d)]) w4 g := fun h => by
        rcases hm4 g h with h | h
        · exact hng h
        · omega
      have hblk : ∀ b, b < wr.heap.size → ¬ V.Mine D wr b → w4.heap[b]? = wr.heap[b]? := fun b hb hn => (hk4.block b (by omega) fun h => hn (hk1.2 b h)).trans (HBA.out.block b hb)
      have hown4 := OWN.out.keep (w' := w4) (by omega) fun b hb h => hblk b hb (by
        rcases h with h | h
        · exact HQM.out D wr INV.out.mine b h
        · have : g = b := Option.some.inj (show some g = some b from h)
          rw [← this]
          exact INV.out.notg)
      have hxi4 := XI.out.lt.imp (w' := w4) (P' := fun b => b < w.heap.size ∧ ¬ V.Mine [] w b) (fun b h => h.1) fun b h hb => hblk b hb (HQM.out D wr INV.out.mine b h.1)
      have hsx : sizeL x.args + 1 = x.size := by obtain ⟨k1, n1, s1, a1⟩ := x; simp [Tm.size, Tm.args]
      have hxs : x.args.length ≤ 1000000000 := by have := len_le x.args; omega
      have hgne : g ≠ wr.heap.size := by omega
      have f3 : w4.cell? ⟨wr.heap.size, 3, none⟩ = some (.slice xa x.args.length xc) := cell_of_row w4 _ 3 _ _ _ hb54
      have hin : WkInRel V w (fun b => b < w.heap.size ∧ ¬ V.Mine [] w b) (D ++ [(x, d)]) wr.heap.size x d xa xc l' (.slice (some ⟨g, 0, none⟩) m cap) (.int .i64 ((x.args.length : Int) - 1)) w4 :=
        ⟨x.args.length, g, cap, m, Nat.le_refl _, rfl, rfl, by rw [HM.out]; omega, by rw [List.drop_of_length_le (by omega)]; simpa using hown4, hkp, hs4, hmine4, hng4, hb54, hgne, ⟨hbig, by omega⟩, hxi4⟩
      have HIN := Lib.hid hin
      have HSX := Lib.hid hsx
      clear hin hsx hxi4 hown4 hblk hng4 hkp hmine4 hb54 hng hns hs4 hk4 hm4 hk1 x0c x1c x2c x3c x4c H5 HBA HBS OWN XI INV hz1
      go_wp2
      clear f3
      generalize wr.heap.size = s5 at *
      go_loopw [4, 6] (fun v4 v6 w5 => WkInRel V w (fun b => b < w.heap.size ∧ ¬ V.Mine [] w b) (D ++ [(x, d)]) s5 x d xa xc l' v4 v6 w5) (fun _ v6 _ => (intOf v6 + 1).toNat)
      case atStart => exact HIN.out
      case round =>
        obtain ⟨q, g5, cap5, n5, hq, rfl, rfl, ci⟩ := hrel
        clear HIN
        rcases q with _ | r
        · have CI := Lib.hid ci
          clear ci
          go_wp2
          go_roundg (gk - 1)
          case measure => omega
          case rel =>
            have c := CI.out
            have ho := c.own
            rw [List.drop_zero] at ho
            refine ⟨D ++ [(x, d)], l' ++ (x.args.map fun y => (y, d + 1)).reverse, g5, cap5, n5, rfl, ⟨?_, ho, c.keeps, by have := c.low; omega, c.sig, c.mine, c.notg⟩, ?_, ?_, by omega, ?_⟩
            · have := c.len; simp; omega
            · rw [HPX.out, List.reverse_append, List.reverse_reverse, partsS_app]
              simp
            · rw [sumA_app, sumA_rev, sumA_map]
              have := HSX.out
              omega
            · intro p hp
              rcases List.mem_append.1 hp with hp | hp
              · exact HD'.out p hp
              · rw [List.mem_reverse] at hp
                obtain ⟨y, hy, rfl⟩ := List.mem_map.1 hp
                have h1 := mem_sizeL hy
                have h2 := HSX.out
                exact ⟨by show 1 ≤ d + 1; omega, by show d + 1 + (y.size : Int) ≤ _; omega⟩
        · have e8 : (((r + 1 : Nat) : Int) - 1) = r := by omega
          rw [e8]
          clear e8
          obtain ⟨xb, xo, rfl, -, xt⟩ := ci.xi.args.at r hq
          obtain ⟨pa, pc, y0, y1, y2, y3, yri, -⟩ := xt.read
          have f3 : wr.cell? ⟨s5, 3, none⟩ = some (.slice (some ⟨xb, xo, none⟩) x.args.length xc) := cell_of_row wr _ 3 _ _ _ ci.box
          have f4 : wr.cell? ⟨s5, 4, none⟩ = some (.int .i64 d) := cell_of_row wr _ 4 _ _ _ ci.box
          have hdr : x.args.drop r = x.args[r] :: x.args.drop (r + 1) := List.drop_eq_getElem_cons hq
          have HDR := Lib.hid hdr
          have CI := Lib.hid ci
          have YRI := Lib.hid yri
          have hri : (r : Int) < (x.args.length : Int) := by omega
          have hd3 : d ≤ 1000000000 := by have h4 : t.size ≤ 1000000000 := hM; omega
          clear hdr ci yri xt
          generalize x.args[r] = xr at *
          go_wp2
          refine wp_region_rest (by kernel_rfl) ?_
          have hdw : Below wr.heap.size wr wr.drew := (Below.refl _ _).drew
          replace f3 := (hdw.cell (p := ⟨s5, 3, none⟩) CI.out.low.2).trans f3
          replace f4 := (hdw.cell (p := ⟨s5, 4, none⟩) CI.out.low.2).trans f4
          replace y0 := (hdw.cell (p := ⟨xb, xo + r * 4, none⟩) (World.block_lt_of_cell? _ _ y0)).trans y0
          replace y1 := (hdw.cell (p := ⟨xb, xo + r * 4 + 1, none⟩) (World.block_lt_of_cell? _ _ y1)).trans y1
          replace y2 := (hdw.cell (p := ⟨xb, xo + r * 4 + 2, none⟩) (World.block_lt_of_cell? _ _ y2)).trans y2
          replace y3 := (hdw.cell (p := ⟨xb, xo + r * 4 + 3, none⟩) (World.block_lt_of_cell? _ _ y3)).trans y3
          have hd0 : wr.drew.heap.size = wr.heap.size := rfl
          generalize wr.drew = W0 at *
          have HD0 := Lib.hid hd0
          clear hd0
          refine rest_chain 0 12 [(false, [0, 1, 2, 3, 4, 5, 6, 7, 8, 9, 10]), (true, [11])] [(false, [_, _, _, _, _, _, _, _, _, _, _]), (true, [_])] rfl (by kernel_rfl) (by kernel_rfl) rfl (by kernel_rfl) (by kernel_rfl) (.inr (by kernel_rfl)) ?_
          refine chain_soft ?_
          intro E hE
          go_wp2
          clear f3 f4 y0 y1 y2 y3
          refine chain_one ?_
          intro E hE
          go_wp2
          refine ⟨(Below.refl _ _).alloc (Nat.le_refl _) _, ?_⟩
          refine chain_nil ?_
          have hci := CI.out
          have hbw : Below wr.heap.size wr (W0.alloc (.cells #[.int .i64 xr.k, .int .i64 xr.n, .string xr.s, .slice pa xr.args.length pc, .int .i64 (d + 1)] 150 (0, 0))) := hdw.alloc (by have := HD0.out; omega) _
          have hrow := heap_alloc_new W0 (.cells #[.int .i64 xr.k, .int .i64 xr.n, .string xr.s, .slice pa xr.args.length pc, .int .i64 (d + 1)] 150 (0, 0))
          have hu1 : (W0.alloc (.cells #[.int .i64 xr.k, .int .i64 xr.n, .string xr.s, .slice pa xr.args.length pc, .int .i64 (d + 1)] 150 (0, 0))).heap.size = W0.heap.size + 1 := by simp
          generalize W0.alloc (.cells #[.int .i64 xr.k, .int .i64 xr.n, .string xr.s, .slice pa xr.args.length pc, .int .i64 (d + 1)] 150 (0, 0)) = u at *
          have hk1 := V.below hci.sig hbw
          have hu2 : wr.heap.size + 1 ≤ u.heap.size := by have := HD0.out; omega
          clear hu1
          have HOWN := Lib.hid (hci.own.below hbw)
          have HKP := Lib.hid (hci.keeps.trans (Keeps.of hbw (M := V.Mine (D ++ [(x, d)]) wr)) hci.mine)
          have HSIG := Lib.hid hk1.1
          have HMINE : Hid (∀ b, V.Mine (D ++ [(x, d)]) u b → V.Mine [] w b ∨ w.heap.size ≤ b) := Lib.hid fun b hb => hci.mine b (hk1.2 b hb)
          have HNOTG : Hid (¬ V.Mine (D ++ [(x, d)]) u g5) := Lib.hid fun h => hci.notg (hk1.2 _ h)
          have HBX := Lib.hid ((hbw.block _ hci.low.2).trans hci.box)
          have HXI := Lib.hid (hci.xi.below hbw)
          have hlow := hci.low
          have HNE := Lib.hid hci.ne
          have HLEN := Lib.hid hci.len
          have hg5 := (hci.own.low g5 rfl)
          have YR : Hid (abKind.R u (fun b => (b < w.heap.size ∧ ¬ V.Mine [] w b) ∧ Value.ownBlock (.slice (some ⟨g5, 0, none⟩) n5 cap5) ≠ some b) [.int .i64 xr.k, .int .i64 xr.n, .string xr.s, .slice pa xr.args.length pc, .int .i64 (d + 1)] (xr, d + 1)) := by
            obtain ⟨a', c', e, h'⟩ := YRI.out.below hbw
            simp at e
            obtain ⟨rfl, rfl⟩ := e
            exact Lib.hid ⟨pa, pc, rfl, ArgsFrom.imp (fun b h => ⟨h, fun e => by have h2 : g5 = b := Option.some.inj (show some g5 = some b from e); have h1 := h.1; have := hg5.1; omega⟩) (fun _ _ _ => rfl) _ _ _ h'⟩
          have HROW := Lib.hid hrow
          have hlL : (l' ++ ((x.args.drop (r + 1)).map fun t => (t, d + 1)).reverse).length ≤ 1000000000 := by
            have h0 := HM.out
            have h1 := len_sumA l'
            have h2 := len_le x.args
            have h3 := HSX.out
            have h4 : t.size ≤ 1000000000 := hM
            simp
            omega
          have hbase : w.heap.size + 1 ≤ u.heap.size := by omega
          clear hci hbw hrow hk1 CI YRI
          refine rest_lineL 12 14 [_, _] rfl (by kernel_rfl) (by decide) (by decide) (by kernel_rfl) ?_
          go_wp2_with (
            (with_reducible show wpList _ _ _ (⟨some 51, _, _, _, _, _⟩ :: _) _ _
             refine wpList_put (K := abKind) rfl (.tmp 39) (.tmp 50) _ rfl Try.underlying151 info_above rfl (w.heap.size + 1) _ _ _ _ (xr, d + 1) W0.heap.size _ _ _ rfl HOWN.out rfl HROW.out YR.out (by unfold maxLen; omega) (by omega) hbase ?_
             intro v3 w3 hown hb3 hgr hv3
             have el : (l' ++ ((x.args.drop (r + 1)).map fun t => (t, d + 1)).reverse ++ [(xr, d + 1)]) = l' ++ ((x.args.drop r).map fun t => (t, d + 1)).reverse := by rw [HDR.out, List.map_cons, List.reverse_cons, List.append_assoc]
             have en : (l' ++ ((x.args.drop r).map fun t => (t, d + 1)).reverse).length = n5 + 1 := by have h1 := HLEN.out; have h2 := HM.out; simp; omega
             rw [el] at hown
             obtain ⟨g9, c9, e9⟩ : ∃ g9 c9, v3 = .slice (some ⟨g9, 0, none⟩) (n5 + 1) c9 := by
               rcases hown.form with h | ⟨g9, c9, e9⟩
               · exfalso; have := congrArg List.length h.2; rw [en] at this; simp at this
               · exact ⟨g9, c9, by rw [e9, en]⟩
             subst e9
             have hnew : WkIn V w (fun b => b < w.heap.size ∧ ¬ V.Mine [] w b) (D ++ [(x, d)]) s5 x d (some ⟨xb, xo, none⟩) xc l' r g9 c9 (n5 + 1) w3 := by
               have hv9 : g9 = g5 ∨ u.heap.size ≤ g9 := by
                 rcases hv3 g9 rfl with h | h
                 · exact .inl (Option.some.inj (show some g5 = some g9 from h)).symm
                 · exact .inr h
               have hne9 : g9 ≠ s5 := fun e => by
                 rcases hv9 with h | h
                 · exact HNE.out (h.symm.trans e)
                 · omega
               have hg := hgr
               have hk3 := V.keep HSIG.out hg.size fun b hb hm => hg.block b hb fun e => HNOTG.out (by have : b = g5 := Option.some.inj (show some b = some g5 from e); rw [← this]; exact hm)
               refine ⟨by have h1 := HLEN.out; omega, hown, ?_, hk3.1, fun b hb => HMINE.out b (hk3.2 b hb), fun hm => ?_, (hgr.block _ (by omega) (fun e => HNE.out (Option.some.inj (show some g5 = some s5 from e.symm)))).trans HBX.out, hne9, ⟨hlow.1, by have := hgr.size; omega⟩, ?_⟩
               · exact HKP.out.trans (Keeps.grown (M := fun b => b = g5) hg fun b e => .inl (Option.some.inj (show some g5 = some b from e)).symm) fun b e => .inr (by rw [e]; omega)
               · have hm' := hk3.2 _ hm
                 rcases hv9 with h | h
                 · rw [h] at hm'; exact HNOTG.out hm'
                 · have := V.low HSIG.out hm'; omega
               · exact HXI.out.imp (fun _ h => h) fun b h _ => hb3.block b (by have := h.1; omega)
             have HNEW := Lib.hid hnew
             clear hnew hown hb3 hgr hv3 el en))
          refine then_rest (rest_end (by decide) ?_)
          go_wp2
          go_roundw
          case rel => exact ⟨r, g9, c9, n5 + 1, by omega, rfl, rfl, HNEW.out⟩
          case measure => simp [intOf]
end Go.Proofs.Ytcbijikalfodnaa.Tms
namespace Go.Proofs.Ytcbijikalfodnaa.Tms
open Go Go.RowKit Go.Proofs.Ytcbijikalfodnaa.Reg Go.Proofs.Ytcbijikalfodnaa.Rws
set_option linter.unusedVariables false

abbrev ms0 : Bool × Int × Int := (false, 0, 0)
theorem meas_len (st : Bool × Int × Int) : ∀ l, (meas st l).2.1 = st.2.1 + l.length := by
  intro l
  induction l generalizing st with
  | nil => simp [meas]
  | cons p l ih => simp only [meas, ih, List.length_cons]; omega
mutual
theorem parts_len : ∀ (d : Int) (t : Tm), (parts d t).length = t.size
  | d, .mk k n s a => by simp [parts, Tm.size, partsL_len (d + 1) a]
theorem partsL_len : ∀ (d : Int) (l : List Tm), (partsL d l).length = sizeL l
  | d, [] => by simp [partsL, sizeL]
  | d, t :: l => by simp [partsL, sizeL, parts_len d t, partsL_len d l]
end
abbrev msO (st : Bool × Int × Int) : Obj := .cells #[.bool st.1, .int .i64 st.2.1, .int .i64 st.2.2] 135 (0, 0)
def msVis (mb : Nat) : Vis where
  Sig := fun D W => W.heap[mb]? = some (msO (meas ms0 D))
  Mine := fun _ _ b => b = mb
  keep := fun {D W W'} h _ hk => ⟨(hk mb (Array.getElem?_eq_some_iff.1 h).1 rfl).trans h, fun _ h => h⟩
  low := fun {D W b} h e => by subst e; exact (Array.getElem?_eq_some_iff.1 h).1

theorem size_measure : (Try.prog.info? 135).map (·.size) = some 3 := by kernel_rfl
/-- what measure is told of a term -/
def msT (t : Tm) : Bool × Int × Int := meas ms0 (parts 1 t)
theorem msT_size (t : Tm) : (msT t).2.1 = t.size := by unfold msT; rw [meas_len, parts_len]; simp
abbrev msV (t : Tm) : Value := .agg #[.bool (msT t).1, .int .i64 (msT t).2.1, .int .i64 (msT t).2.2]

theorem args_le {D rest : List (Tm × Int)} {p : Tm × Int} : ∀ {t : Tm} {d : Int}, parts d t = D ++ p :: rest → p.1.args.length ≤ t.size := by
  have key : ∀ N, (∀ (t : Tm) (d : Int) (p : Tm × Int), t.size ≤ N → p ∈ parts d t → p.1.size ≤ t.size) := by
    intro N
    induction N with
    | zero => intro t d p h; have := size_pos t; omega
    | succ N ih =>
      intro t d p hN hp
      rw [parts_eq] at hp
      rcases List.mem_cons.1 hp with rfl | hp
      · exact Nat.le_refl _
      · have hs : ∀ (l : List (Tm × Int)), p ∈ partsS l → ∃ q ∈ l, p ∈ parts q.2 q.1 := by
          intro l
          induction l with
          | nil => intro h; simp [partsS] at h
          | cons q l ihl =>
            intro h
            rcases List.mem_append.1 h with h | h
            · exact ⟨q, List.mem_cons_self .., h⟩
            · obtain ⟨q', h1, h2⟩ := ihl h
              exact ⟨q', List.mem_cons_of_mem _ h1, h2⟩
        obtain ⟨q, hq, hpq⟩ := hs _ hp
        obtain ⟨y, hy, rfl⟩ := List.mem_map.1 hq
        have h1 := mem_sizeL hy
        have h2 : sizeL t.args + 1 = t.size := by obtain ⟨k1, n1, s1, a1⟩ := t; simp [Tm.size, Tm.args]
        have := ih y _ p (by omega) hpq
        omega
  intro t d h
  have := key _ t d p (Nat.le_refl _) (by rw [h]; simp)
  have h2 : sizeL p.1.args + 1 = p.1.size := by obtain ⟨⟨k1, n1, s1, a1⟩, q⟩ := p; simp [Tm.size, Tm.args]
  have := len_le p.1.args
  omega

theorem tm_measured (t : Tm) (v : Value) (P : Nat → Prop) (w : World) (hM : t.size ≤ 1000000000) (h : IsTm w P v t) :
    Calls Try.prog 60 #[v] w fun e w' => e = .returned (msV t) ∧ Below w.heap.size w w' := by
  have hl := h.lt
  clear h
  obtain ⟨a, c, rfl⟩ := hl.form
  have hw := walk_meas
  have W := Lib.hid hw
  have HL := Lib.hid hl
  clear hw hl
  go_enter Try.func60, Try.ntmps60
  go_wp2_with fail
  have hb : Below w.heap.size w (((w.alloc (.cells #[.int .i64 t.k, .int .i64 t.n, .string t.s, .slice a t.args.length c] 49 (0, 0))).alloc (msO ms0)).alloc (msO ms0)) := (((Below.refl _ _).alloc (Nat.le_refl _) _).alloc (by simp) _).alloc (by simp; omega) _
  have h2 : (((w.alloc (.cells #[.int .i64 t.k, .int .i64 t.n, .string t.s, .slice a t.args.length c] 49 (0, 0))).alloc (msO ms0)).alloc (msO ms0)).heap[w.heap.size + 1]? = some (msO ms0) := (by have := heap_alloc2_old (w.alloc (.cells #[.int .i64 t.k, .int .i64 t.n, .string t.s, .slice a t.args.length c] 49 (0, 0))) (msO ms0) (msO ms0); simpa using this)
  have h3 : (((w.alloc (.cells #[.int .i64 t.k, .int .i64 t.n, .string t.s, .slice a t.args.length c] 49 (0, 0))).alloc (msO ms0)).alloc (msO ms0)).heap[w.heap.size + 1 + 1]? = some (msO ms0) := by have := heap_alloc2_new (w.alloc (.cells #[.int .i64 t.k, .int .i64 t.n, .string t.s, .slice a t.args.length c] 49 (0, 0))) (msO ms0) (msO ms0); simpa using this
  have hz : (((w.alloc (.cells #[.int .i64 t.k, .int .i64 t.n, .string t.s, .slice a t.args.length c] 49 (0, 0))).alloc (msO ms0)).alloc (msO ms0)).heap.size = w.heap.size + 3 := by simp
  generalize ((w.alloc (.cells #[.int .i64 t.k, .int .i64 t.n, .string t.s, .slice a t.args.length c] 49 (0, 0))).alloc (msO ms0)).alloc (msO ms0) = W3 at *
  refine (W.out (msVis (w.heap.size + 1 + 1)) _ t _ _ _ hM (HL.out.below hb) (fun b h e => by have h1 := h.2; have h2 : b = w.heap.size + 1 + 1 := e; omega) h3 ?_).mono ?_
  · intro D p rest va P' W hp hs hi hq h1 h2
    obtain ⟨a', c', rfl⟩ := hi.form
    have hl := parts_len 1 t
    rw [hp] at hl
    simp only [List.length_append, List.length_cons] at hl
    have h0 : (meas ms0 D).2.1 = D.length := by rw [meas_len]; simp
    refine (tm_take (w.heap.size + 1 + 1) (meas ms0 D).1 (meas ms0 D).2.1 (meas ms0 D).2.2 p.2 p.1.k p.1.n p.1.s a' p.1.args.length c' W (by have := args_le hp; omega) (by omega) (by omega) hs).mono ?_
    rintro e w' ⟨rfl, hh, hg⟩
    exact ⟨rfl, by show w'.heap[w.heap.size + 1 + 1]? = some (msO (meas ms0 (D ++ [p]))); rw [meas_app]; exact hh, Keeps.grown hg fun b e => .inl (Option.some.inj e).symm, fun b h => .inl h⟩
  rintro e4 w4 ⟨rfl, hs4, hk4, -⟩
  have hz4 : w4.heap[w.heap.size + 1]? = some (msO ms0) := (hk4.block _ (by omega) (fun e => by have h2 : w.heap.size + 1 = w.heap.size + 1 + 1 := e; omega)).trans h2
  have hb4 : Below w.heap.size w w4 := hb.trans ⟨hk4.os, hk4.tape, hk4.output, hk4.size, fun b hb => hk4.block b (by omega) fun e => by have h2 : b = w.heap.size + 1 + 1 := e; omega⟩
  have y0 : w4.cell? ⟨w.heap.size + 1 + 1, 0, none⟩ = some (.bool (msT t).1) := cell_of_row w4 _ 0 _ _ _ hs4
  have y1 : w4.cell? ⟨w.heap.size + 1 + 1, 1, none⟩ = some (.int .i64 (msT t).2.1) := cell_of_row w4 _ 1 _ _ _ hs4
  have y2 : w4.cell? ⟨w.heap.size + 1 + 1, 2, none⟩ = some (.int .i64 (msT t).2.2) := cell_of_row w4 _ 2 _ _ _ hs4
  have HZ := Lib.hid hz4
  have HB := Lib.hid hb4
  clear hz4 hb4 hs4 hk4 h2 h3 hb hz W HL
  go_wp2_with (refine wpList_store_row rfl 135 (.tmp 2) (.tmp 7) rfl (w.heap.size + 1) #[.bool (msT t).1, .int .i64 (msT t).2.1, .int .i64 (msT t).2.2] rfl rfl _ _ HZ.out size_measure rfl (by simp [Value.oneCell']) ?_)
  have hz := setRow_heap w4 (w.heap.size + 1) _ (#[.bool (msT t).1, .int .i64 (msT t).2.1, .int .i64 (msT t).2.2] : Array Value) _ _ HZ.out
  exact bodyPost_ret (v := msV t) (results_cell_row Try.results60 _ _ (w.heap.size + 1) _ _ _ _ rfl hz Try.underlying135 rfl (by kernel_rfl)) rfl ⟨rfl, HB.out.trans ⟨rfl, rfl, rfl, by simp, fun k hk => setRow_other _ _ _ _ (by omega)⟩⟩

theorem field_ms1 (w : World) (a b c : Value) : (Instr.field 135 (.agg #[a, b, c]) 1).run Try.prog w = .ok b w := by kernel_rfl
theorem tm_Size (t : Tm) (v : Value) (P : Nat → Prop) (w : World) (hM : t.size ≤ 1000000000) (h : IsTm w P v t) :
    Calls Try.prog 38 #[v] w fun e w' => e = .returned (.int .i64 t.size) ∧ Below w.heap.size w w' := by
  have hl := h.lt
  clear h
  obtain ⟨a, c, rfl⟩ := hl.form
  have HL := Lib.hid hl
  have hb := (Below.refl w.heap.size w).alloc (Nat.le_refl _) (.cells #[.int .i64 t.k, .int .i64 t.n, .string t.s, .slice a t.args.length c] 49 (0, 0))
  have HB := Lib.hid hb
  have hf := field_ms1
  have hz := msT_size t
  clear hl hb
  go_enter Try.func38, Try.ntmps38
  go_wp2_with (refine (tm_measured t _ _ _ hM (HL.out.below HB.out)).mono ?_; rintro e1 w1 ⟨rfl, hb1⟩; have HB1 := Lib.hid (HB.out.trans (hb1.mono (by simp))); clear hb1)
  go_ret
  exact ⟨rfl, HB1.out⟩
/-- what is wrong with a term -/
def checkT (t : Tm) : Int := if (msT t).1 = true then 2 else if 2000 < (msT t).2.2 then 4 else if 20000 < (msT t).2.1 then 3 else 0
theorem tm_Check (t : Tm) (v : Value) (P : Nat → Prop) (w : World) (hM : t.size ≤ 1000000000) (h : IsTm w P v t) :
    Calls Try.prog 37 #[v] w fun e w' => e = .returned (.int .i64 (checkT t)) ∧ Below w.heap.size w w' := by
  have hl := h.lt
  clear h
  obtain ⟨a, c, rfl⟩ := hl.form
  have HL := Lib.hid hl
  have hb := (Below.refl w.heap.size w).alloc (Nat.le_refl _) (.cells #[.int .i64 t.k, .int .i64 t.n, .string t.s, .slice a t.args.length c] 49 (0, 0))
  have HB := Lib.hid hb
  clear hl hb
  have hc : checkT t = if (msT t).1 = true then 2 else if 2000 < (msT t).2.2 then 4 else if 20000 < (msT t).2.1 then 3 else 0 := rfl
  have hm : ∀ W P, IsTm W P (.agg #[.int .i64 t.k, .int .i64 t.n, .string t.s, .slice a t.args.length c]) t → Calls Try.prog 60 #[.agg #[.int .i64 t.k, .int .i64 t.n, .string t.s, .slice a t.args.length c]] W fun e w' => e = .returned (.agg #[.bool (msT t).1, .int .i64 (msT t).2.1, .int .i64 (msT t).2.2]) ∧ Below W.heap.size W w' := fun W P h => tm_measured t _ _ _ hM h
  have HMS := Lib.hid hm
  clear hm
  generalize (msT t).1 = b at *
  generalize (msT t).2.2 = dp at *
  generalize (msT t).2.1 = sz at *
  rw [hc]
  clear hc
  cases b
  all_goals try (by_cases h1 : 2000 < dp)
  all_goals try (by_cases h2 : 20000 < sz)
  all_goals
    go_enter Try.func37, Try.ntmps37
    go_wp2_with (refine (HMS.out _ _ (HL.out.below HB.out)).mono ?_; rintro e1 w1 ⟨rfl, hb1⟩; have HB1 := Lib.hid (HB.out.trans (hb1.mono (by simp))); clear hb1)
    go_ret
    exact ⟨by simp [*], HB1.out.alloc HB1.out.size _⟩
end Go.Proofs.Ytcbijikalfodnaa.Tms
namespace Go.Proofs.Ytcbijikalfodnaa.Tms
open Go Go.RowKit Go.Proofs.Ytcbijikalfodnaa.Reg Go.Proofs.Ytcbijikalfodnaa.Rws
set_option linter.unusedVariables false
set_option linter.unusedSimpArgs false

/-- a slice of numbers -/
def IntSl (w : World) (P : Nat → Prop) (v : Value) (L : List Int) : Prop := ∃ a cap, v = .slice a L.length cap ∧ L.length ≤ cap ∧ cap ≤ maxLen ∧ ∀ i (h : i < L.length), ∃ b off, a = some ⟨b, off, none⟩ ∧ P b ∧ b < w.heap.size ∧ w.cell? ⟨b, off + i, none⟩ = some (.int .i64 L[i])
theorem IntSl.below {w w' : World} {P : Nat → Prop} {v : Value} {L : List Int} (h : IntSl w P v L) (hb : Below w.heap.size w w') : IntSl w' P v L := by
  obtain ⟨a, cap, e, h1, h2, h3⟩ := h
  refine ⟨a, cap, e, h1, h2, fun i hi => ?_⟩
  obtain ⟨b, off, e, hp, hl, hc⟩ := h3 i hi
  exact ⟨b, off, e, hp, by have := hb.size; omega, (hb.cell (p := ⟨b, off + i, none⟩) hl).trans hc⟩
theorem own_formX {α : Type} {K : Rws.Kind α} {w : World} {base : Nat} {P : Nat → Prop} {v : Value} {l : List α} (h : Own K w base P v l) : ∃ q c, v = .slice q l.length c := by
  rcases h.form with ⟨rfl, e⟩ | ⟨g, c, rfl⟩
  · exact ⟨none, 0, by rw [e]; rfl⟩
  · exact ⟨_, c, rfl⟩
/-- an int in one cell -/
def jKind : Rws.Kind Int where
  T := 3
  sz := 1
  R := fun w P cs a => cs = [.int .i64 a]
  pos := by decide
  len := by rintro w P cs a rfl; rfl
  one := by
    rintro w P cs a rfl v hv
    simp only [List.mem_cons, List.not_mem_nil, or_false] at hv
    subst hv; rfl
  mono := by rintro w w' P P' cs a hP hw rfl; rfl
  lt := by rintro w P cs a rfl; rfl
theorem info_j : (Try.prog.info? 3).map (fun i => (i.zero, i.size, i.bytes)) = some (some (.int .i64 0), 1, 8) := by kernel_rfl
theorem each_j {w : World} {P : Nat → Prop} : ∀ {xss : List (List Value)} {L : List Int}, Each jKind w P xss L → xss.flatten = L.map fun n => Value.int .i64 n
  | [], [], _ => rfl
  | x :: xss, n :: L, h => by
    have h1 : x = [.int .i64 n] := h.1
    rw [List.flatten_cons, each_j h.2, h1]
    rfl
  | [], _ :: _, h => h.elim
  | _ :: _, [], h => h.elim
theorem own_intsJ {w : World} {base : Nat} {P : Nat → Prop} {v : Value} {L : List Int} (h : Own jKind w base P v L) : IntSl w (fun b => base ≤ b) v L := by
  rcases h.form with ⟨rfl, e⟩ | ⟨g, c, rfl⟩
  · subst e
    exact ⟨none, 0, rfl, by simp, by decide, fun i hi => by simp at hi⟩
  · obtain ⟨xss, h1, h2⟩ := id h
    have hfl := each_j h2
    have hlow := h.low g rfl
    obtain ⟨-, h0 | ⟨g', cap', cur, e, hb, hg, hc, hm, hsz, ht⟩⟩ := id h1
    · cases h0.1
    · simp only [Value.slice.injEq, Option.some.injEq, Addr.mk.injEq, and_true, true_and] at e
      obtain ⟨rfl, rfl⟩ := e
      refine ⟨_, _, rfl, hc, hm, fun i hi => ⟨g, 0, rfl, hlow.1, hlow.2, ?_⟩⟩
      have h5 := h1.cellAt i (by simpa [jKind] using hi)
      rw [Nat.zero_add, h5, hfl]
      simp [hi]
end Go.Proofs.Ytcbijikalfodnaa.Tms
namespace Go.Proofs.Ytcbijikalfodnaa.Tms
open Go Go.RowKit Go.Proofs.Ytcbijikalfodnaa.Reg Go.Proofs.Ytcbijikalfodnaa.Rws
set_option linter.unusedVariables false

/-- a number in one cell -/
def intKind : Rws.Kind Int where
  T := 2
  sz := 1
  R := fun w P cs a => cs = [.int .i64 a]
  pos := by decide
  len := by rintro w P cs a rfl; rfl
  one := by
    rintro w P cs a rfl v hv
    simp only [List.mem_cons, List.not_mem_nil, or_false] at hv
    subst hv; rfl
  mono := by rintro w w' P P' cs a hP hw rfl; rfl
  lt := by rintro w P cs a rfl; rfl
/-- the numbers' entries -/
def seenEs (i : Nat) : List Int → List MapEntry
  | [] => []
  | n :: l => ⟨.int .i64 n, .int .i64 i, i⟩ :: seenEs (i + 1) l
/-- where a number stands among those that came -/
def place : List Int → Int → Option Nat
  | [], _ => none
  | x :: l, n => if n = x then some 0 else (place l n).map (· + 1)
def numL (l : List Int) (n : Int) : List Int := if (place l n).isSome then l else l ++ [n]
def numP (l : List Int) (n : Int) : Nat := (place l n).getD l.length
/-- what lies in memory -/
structure SeenRow (W : World) (base mb mm : Nat) (lv : Value) (L : List Int) : Prop where
  row : W.heap[mb]? = some (.cells #[lv, .map (some mm)] 117 (0, 0))
  map : ∃ es : Array MapEntry, W.heap[mm]? = some (.map es L.length) ∧ es.toList = seenEs 0 L
  own : Own intKind W base (fun _ => False) lv L
  ne : mb ≠ mm
  nb : lv.ownBlock ≠ some mb
  nm : lv.ownBlock ≠ some mm
  base : base ≤ W.heap.size
def SeenAt (base mb mm : Nat) (L : List Int) (W : World) : Prop := ∃ lv, SeenRow W base mb mm lv L
/-- its blocks -/
def SeenMine (mb mm : Nat) (W : World) (b : Nat) : Prop := b = mb ∨ b = mm ∨ ∃ lv, W.cell? ⟨mb, 0, none⟩ = some lv ∧ lv.ownBlock = some b
theorem SeenAt.keep {base mb mm : Nat} {L : List Int} {W W' : World} (h : SeenAt base mb mm L W) (hs : W.heap.size ≤ W'.heap.size) (hk : ∀ b, b < W.heap.size → SeenMine mb mm W b → W'.heap[b]? = W.heap[b]?) : SeenAt base mb mm L W' ∧ ∀ b, SeenMine mb mm W' b → SeenMine mb mm W b := by
  obtain ⟨lv, h⟩ := h
  obtain ⟨es, h1, h2⟩ := h.map
  have hmb := hk mb (Array.getElem?_eq_some_iff.1 h.row).1 (.inl rfl)
  have hmm := hk mm (Array.getElem?_eq_some_iff.1 h1).1 (.inr (.inl rfl))
  have c0 : W.cell? ⟨mb, 0, none⟩ = some lv := cell_of_row W mb 0 _ _ _ h.row
  have c0' : W'.cell? ⟨mb, 0, none⟩ = some lv := cell_of_row W' mb 0 _ _ _ (hmb.trans h.row)
  refine ⟨⟨lv, hmb.trans h.row, ⟨es, hmm.trans h1, h2⟩, h.own.keep hs fun b hb hp => ?_, h.ne, h.nb, h.nm, Nat.le_trans h.base hs⟩, fun b hb => ?_⟩
  · rcases hp with hp | hp
    · exact hp.elim
    · exact hk b hb (.inr (.inr ⟨lv, c0, hp⟩))
  · rcases hb with hb | hb | ⟨lv', hc, hb⟩
    · exact .inl hb
    · exact .inr (.inl hb)
    · rw [c0'] at hc
      obtain rfl := Option.some.inj hc
      exact .inr (.inr ⟨lv, c0, hb⟩)
theorem SeenAt.low {base mb mm : Nat} {L : List Int} {W : World} (h : SeenAt base mb mm L W) {b : Nat} (hb : SeenMine mb mm W b) : b < W.heap.size := by
  obtain ⟨lv, h⟩ := h
  obtain ⟨es, h1, h2⟩ := h.map
  have c0 : W.cell? ⟨mb, 0, none⟩ = some lv := cell_of_row W mb 0 _ _ _ h.row
  rcases hb with rfl | rfl | ⟨lv', hc, hb⟩
  · exact (Array.getElem?_eq_some_iff.1 h.row).1
  · exact (Array.getElem?_eq_some_iff.1 h1).1
  · rw [c0] at hc
    obtain rfl := Option.some.inj hc
    exact (h.own.low b hb).2

end Go.Proofs.Ytcbijikalfodnaa.Tms
namespace Go.Proofs.Ytcbijikalfodnaa.Tms
open Go Go.RowKit Go.Proofs.Ytcbijikalfodnaa.Reg Go.Proofs.Ytcbijikalfodnaa.Rws
set_option linter.unusedVariables false

end Go.Proofs.Ytcbijikalfodnaa.Tms
namespace Go.Proofs.Ytcbijikalfodnaa.Tms
open Go Go.RowKit Go.Proofs.Ytcbijikalfodnaa.Reg Go.Proofs.Ytcbijikalfodnaa.Rws
set_option linter.unusedVariables false

end Go.Proofs.Ytcbijikalfodnaa.Tms
namespace Go.Proofs.Ytcbijikalfodnaa.Tms
open Go Go.RowKit Go.Proofs.Ytcbijikalfodnaa.Reg Go.Proofs.Ytcbijikalfodnaa.Rws
set_option linter.unusedVariables false

def takeL (L : List Int) (p : Tm × Int) : List Int := if p.1.k = 1 then numL L p.1.n else L
theorem numL_len (L : List Int) (n : Int) : (numL L n).length ≤ L.length + 1 := by unfold numL; split <;> simp
end Go.Proofs.Ytcbijikalfodnaa.Tms
namespace Go.Proofs.Ytcbijikalfodnaa.Tms
open Go Go.RowKit Go.Proofs.Ytcbijikalfodnaa.Reg Go.Proofs.Ytcbijikalfodnaa.Rws
set_option linter.unusedVariables false

mutual
def renT (φ : Int → Int) : Tm → Tm
  | .mk k n s a => .mk k (if k = 1 then φ n else n) s (renL φ a)
def renL (φ : Int → Int) : List Tm → List Tm
  | [] => []
  | t :: l => renT φ t :: renL φ l
end
mutual
/-- a term's parts, from the left, each ahead of its Args -/
def flatT : Tm → List (Tm × Int)
  | .mk k n s a => (.mk k n s a, 0) :: flatL a
def flatL : List Tm → List (Tm × Int)
  | [] => []
  | t :: l => flatT t ++ flatL l
end
mutual
theorem flatT_parts : ∀ (d : Int) (t : Tm), (flatT t).map Prod.fst = (parts d t).map Prod.fst
  | d, .mk k n s a => by simp [flatT, parts, flatL_parts (d + 1) a]
theorem flatL_parts : ∀ (d : Int) (l : List Tm), (flatL l).map Prod.fst = (partsL d l).map Prod.fst
  | d, [] => by simp [flatL, partsL]
  | d, t :: l => by simp [flatL, partsL, flatT_parts d t, flatL_parts d l]
end
mutual
theorem renT_id : ∀ t : Tm, renT (fun n => n) t = t
  | .mk k n s a => by rw [renT, renL_id a]; simp
theorem renL_id : ∀ l : List Tm, renL (fun n => n) l = l
  | [] => by simp [renL]
  | t :: l => by rw [renL, renT_id t, renL_id l]
end
end Go.Proofs.Ytcbijikalfodnaa.Tms
namespace Go.Proofs.Ytcbijikalfodnaa.Tms
open Go Go.RowKit

structure Pt where
  k : Int
  n : Int
  s : ByteArray
  a : Nat
def Pt.cells (p : Pt) : List Value := [.int .i64 p.k, .int .i64 p.n, .string p.s, .int .u8 p.a]

def PtSl (w : World) (v : Value) (L : List Pt) : Prop :=
  ∃ a cap, v = .slice a L.length cap ∧ (∀ j (h : j < L.length), L[j].a < 256 ∧ ∃ b off, a = some ⟨b, off, none⟩ ∧ b < w.heap.size ∧ w.cell? ⟨b, off + j * 4, none⟩ = some (.int .i64 L[j].k) ∧ w.cell? ⟨b, off + j * 4 + 1, none⟩ = some (.int .i64 L[j].n) ∧
    w.cell? ⟨b, off + j * 4 + 2, none⟩ = some (.string L[j].s) ∧ w.cell? ⟨b, off + j * 4 + 3, none⟩ = some (.int .u8 L[j].a)) ∧ L.length ≤ cap ∧ cap ≤ maxLen

theorem PtSl.below {w w' : World} {v : Value} {L : List Pt} (h : PtSl w v L) (hb : Below w.heap.size w w') : PtSl w' v L := by
  obtain ⟨a, cap, e, h, hc, hm⟩ := h
  refine ⟨a, cap, e, fun j hj => ?_, hc, hm⟩
  obtain ⟨ha, b, off, e, hlt, h0, h1, h2, h3⟩ := h j hj
  have c := fun o => hb.cell (p := ⟨b, o, none⟩) hlt
  exact ⟨ha, b, off, e, Nat.lt_of_lt_of_le hlt hb.size, (c _).trans h0, (c _).trans h1, (c _).trans h2, (c _).trans h3⟩

theorem PtSl.form {w : World} {v : Value} {L : List Pt} (h : PtSl w v L) : ∃ a cap, v = .slice a L.length cap ∧ L.length ≤ cap ∧ cap ≤ maxLen := by
  obtain ⟨a, cap, e, -, hc, hm⟩ := h
  exact ⟨a, cap, e, hc, hm⟩

/-- the slice from place k on -/
theorem PtSl.drop {w : World} {b off cap k : Nat} {L : List Pt} (h : PtSl w (.slice (some ⟨b, off, none⟩) L.length cap) L) (hk : k ≤ L.length) :
    PtSl w (.slice (some ⟨b, off + k * 4, none⟩) (L.length - k) (cap - k)) (L.drop k) := by
  obtain ⟨a', cap', e, h, hc, hm⟩ := h
  simp only [Value.slice.injEq, true_and] at e
  obtain ⟨rfl, rfl⟩ := e
  refine ⟨_, _, by rw [List.length_drop], fun j hj => ?_, by simp; omega, by omega⟩
  simp only [List.length_drop] at hj
  obtain ⟨ha, b', off', e, hlt, h0, h1, h2, h3⟩ := h (k + j) (by omega)
  simp only [Option.some.injEq, Addr.mk.injEq, and_true] at e
  obtain ⟨rfl, rfl⟩ := e
  rw [List.getElem_drop]
  rw [Nat.add_mul, ← Nat.add_assoc] at h0 h1 h2 h3
  exact ⟨ha, b, _, rfl, hlt, h0, h1, h2, h3⟩
theorem PtSl.none_ {w : World} {a : Option Addr} {cap : Nat} (hm : cap ≤ maxLen) : PtSl w (.slice a 0 cap) [] := ⟨a, cap, rfl, by simp, by simp, hm⟩
theorem PtSl.head {w : World} {a : Option Addr} {cap : Nat} {p : Pt} {L : List Pt} (h : PtSl w (.slice a (L.length + 1) cap) (p :: L)) : ∃ b off, a = some ⟨b, off, none⟩ ∧ p.a < 256 ∧ b < w.heap.size ∧ L.length + 1 ≤ cap ∧ cap ≤ maxLen ∧
    w.cell? ⟨b, off, none⟩ = some (.int .i64 p.k) ∧ w.cell? ⟨b, off + 1, none⟩ = some (.int .i64 p.n) ∧ w.cell? ⟨b, off + 2, none⟩ = some (.string p.s) ∧ w.cell? ⟨b, off + 3, none⟩ = some (.int .u8 p.a) := by
  obtain ⟨a', cap', e, h, hc, hm⟩ := h
  obtain ⟨rfl, -, rfl⟩ := Value.slice.inj e
  obtain ⟨ha, b, off, e, hlt, h0, h1, h2, h3⟩ := h 0 (by simp)
  simp only [Nat.zero_mul, Nat.add_zero, List.getElem_cons_zero] at h0 h1 h2 h3 ha
  exact ⟨b, off, e, ha, hlt, hc, hm, h0, h1, h2, h3⟩

def atomA : Tm := atomT ⟨#[97]⟩
theorem sizeL_app : ∀ (l m : List Tm), sizeL (l ++ m) = sizeL l + sizeL m
  | [], m => by simp [sizeL]
  | t :: l, m => by simp only [List.cons_append, sizeL, sizeL_app l m]; omega
end Go.Proofs.Ytcbijikalfodnaa.Tms
namespace Go.Proofs.Ytcbijikalfodnaa.Tms
open Go Go.ChangeMaps Go.ChangeShapes Go.WideShapes Go.ChangeAt Go.RowKit Go.Deep
set_option linter.unusedVariables false

section
variable {H : Type} {enc : TypeId × Value → H} {P : Program} {w : World} {base : Nat} {spare : Nat → Bool} {held : Bool}

/-- a struct of fields of one cell each: each field's own reading -/
theorem field_of {t : TypeId} {fs : Array Field} {fuel : Nat} {cs : List Value} {x : DataW H × List MemPlace} (ht : P.underlying t = some (.struct fs)) (hone : oneCellFields P fs = true) (hC : P.cellsOf t = fs.size)
    (h : DataW.trod enc P w base spare held fuel t cs = some x) : cs.length = fs.size ∧ ∀ (j : Nat) (f : Field), fs[j]? = some f → ∃ v n y, cs[j]? = some v ∧ DataW.trod enc P w base spare held n f.type [v] = some y := by
  obtain ⟨xs, n, _, _, hl, hxl, hf⟩ := DataW.trod_struct ht h
  rw [hC] at hl
  refine ⟨hl, fun j f hj => ?_⟩
  obtain ⟨ho, hk⟩ := hone_of hone j f hj
  have hjl : j < fs.size := (Array.getElem?_eq_some_iff.1 hj).1
  have h1 := hf j f hj
  have hd : (cs.drop f.offset).take (P.cellsOf f.type) = [cs[j]'(by omega)] := by
    rw [ho, hk, List.drop_eq_getElem_cons (by omega)]
    rfl
  rw [hd, List.getElem?_eq_getElem (by omega)] at h1
  exact ⟨cs[j]'(by omega), n, _, List.getElem?_eq_getElem (by omega), h1⟩

theorem list4 {α : Type} {l : List α} {a b c d : α} (hl : l.length = 4) (h0 : l[0]? = some a) (h1 : l[1]? = some b) (h2 : l[2]? = some c) (h3 : l[3]? = some d) : l = [a, b, c, d] := by
  match l, hl with
  | [x0, x1, x2, x3], _ => simp at h0 h1 h2 h3; simp [h0, h1, h2, h3]
end

section
variable {H : Type} {enc : TypeId × Value → H} {w : World} {base : Nat} {spare : Nat → Bool} {held : Bool}

end
end Go.Proofs.Ytcbijikalfodnaa.Tms
namespace Go.Proofs.Ytcbijikalfodnaa.Tms
open Go Go.RowKit

structure OfCtx (w : World) (L : List Pt) (vl : Value) (p : Pt) (v : Value) (wr : World) : Prop where
  res : wr.heap[w.heap.size]? = some (.cells #[.int .i64 0, .int .i64 0, .string ⟨#[]⟩, .slice none 0 0] 49 (0, 0))
  part : wr.heap[w.heap.size + 1]? = some (.cells #[.int .i64 p.k, .int .i64 p.n, .string p.s, .int .u8 p.a] 133 (0, 0))
  box : wr.heap[w.heap.size + 2]? = some (.cells #[.int .i64 p.k, .int .i64 p.n, .string p.s, v] 49 (0, 0))
  bel : Below w.heap.size w wr
  big : w.heap.size + 3 ≤ wr.heap.size
  args : PtSl wr vl L

theorem OfCtx.on {w : World} {L : List Pt} {vl : Value} {p : Pt} {v : Value} {wr w' : World} (h : OfCtx w L vl p v wr) (h0 : PtSl w vl L) (hb : Below (w.heap.size + 3) wr w') : OfCtx w L vl p v w' :=
  have hbel := h.bel.trans (hb.mono (by omega))
  ⟨(hb.block _ (by omega)).trans h.res, (hb.block _ (by omega)).trans h.part, (hb.block _ (by omega)).trans h.box, hbel, Nat.le_trans h.big hb.size, h0.below hbel⟩
theorem OfCtx.store {w : World} {L : List Pt} {vl : Value} {p : Pt} {v v' : Value} {wr : World} (h : OfCtx w L vl p v wr) (h0 : PtSl w vl L) : OfCtx w L vl p v' (wr.setCell ⟨w.heap.size + 2, 3, none⟩ v') := by
  have hbel : Below w.heap.size w (wr.setCell ⟨w.heap.size + 2, 3, none⟩ v') := h.bel.setCell (show w.heap.size ≤ w.heap.size + 2 by omega) _
  have ne := fun (k : Nat) (hk : k ≠ w.heap.size + 2) => Below.heap_setCell wr ⟨w.heap.size + 2, 3, none⟩ v' k hk
  refine ⟨(ne _ (by omega)).trans h.res, (ne _ (by omega)).trans h.part, ?_, hbel, by simpa [World.setCell] using h.big, h0.below hbel⟩
  have := heap_setCell_same wr (w.heap.size + 2) 3 _ _ v' h.box
  simpa using this
end Go.Proofs.Ytcbijikalfodnaa.Tms
namespace Go.Proofs.Ytcbijikalfodnaa.Tms
open Go Go.RowKit Go.Proofs.Ytcbijikalfodnaa.Reg

mutual
def mendT : Tm → Tm
  | .mk k n s a => if 20 < s.size then atomA else if k = 1 then .mk 1 (max 0 n) ⟨#[]⟩ [] else if k = 2 then .mk 2 n ⟨#[]⟩ [] else if k = 3 then .mk 3 0 s [] else if k = 4 then (if a.length = 0 then atomA else .mk 4 0 s (mendL a)) else atomA
def mendL : List Tm → List Tm
  | [] => []
  | t :: ts => mendT t :: mendL ts
end
theorem mendL_map : ∀ l, mendL l = l.map mendT
  | [] => by simp [mendL]
  | t :: l => by simp [mendL, mendL_map l]
mutual
theorem mendT_size : ∀ t : Tm, (mendT t).size ≤ t.size
  | .mk k n s a => by
    have h := mendL_size a
    unfold mendT
    repeat' split
    all_goals simp only [Tm.size, sizeL, atomA, atomT]
    all_goals omega
theorem mendL_size : ∀ l : List Tm, sizeL (mendL l) ≤ sizeL l
  | [] => by simp [mendL, sizeL]
  | t :: l => by have h1 := mendT_size t; have h2 := mendL_size l; simp only [mendL, sizeL]; omega
end

/-- a slice of one term, in a row of its own -/
def NewRow (B : Nat) (t : Tm) (v : Value) (u : World) : Prop := ∃ b c0 c1 c2 c3, v = .slice (some ⟨b, 0, none⟩) 1 1 ∧ u.heap[b]? = some (.cells #[c0, c1, c2, c3] 49 (0, 0)) ∧ IsTm u (fun b => B ≤ b) (.agg #[c0, c1, c2, c3]) t
theorem NewRow.below {B : Nat} {t : Tm} {v : Value} {u u' : World} (h : NewRow B t v u) (hb : Below u.heap.size u u') : NewRow B t v u' :=
  let ⟨b, c0, c1, c2, c3, e, hh, hi⟩ := h; ⟨b, c0, c1, c2, c3, e, (hb.block b (Array.getElem?_eq_some_iff.1 hh).1).trans hh, hi.below hb⟩
theorem NewRow.made {B : Nat} {t : Tm} {u : World} {c0 c1 c2 c3 : Value} (h : IsTm u (fun b => B ≤ b) (.agg #[c0, c1, c2, c3]) t) : NewRow B t (.slice (some ⟨u.heap.size, 0, none⟩) 1 1) (u.alloc (.cells #[c0, c1, c2, c3] 49 (0, 0))) :=
  ⟨_, _, _, _, _, rfl, heap_alloc_new _ _, h.below ((Below.refl _ _).alloc (Nat.le_refl _) _)⟩

structure MdCtx (w : World) (P : Nat → Prop) (s : ByteArray) (va : Value) (l : List Tm) (v : Value) (wr : World) : Prop where
  res : wr.heap[w.heap.size + 1]? = some (.cells #[.int .i64 0, .int .i64 0, .string ⟨#[]⟩, .slice none 0 0] 49 (0, 0))
  box : wr.heap[w.heap.size + 3]? = some (.cells #[.int .i64 4, .int .i64 0, .string s, v] 49 (0, 0))
  bel : Below w.heap.size w wr
  big : w.heap.size + 4 ≤ wr.heap.size
  args : IsSl wr (fun b => P b ∧ b < w.heap.size) va l

theorem MdCtx.on {w : World} {P : Nat → Prop} {s : ByteArray} {va : Value} {l : List Tm} {v : Value} {wr w' : World} (h : MdCtx w P s va l v wr) (hb : Below (w.heap.size + 4) wr w') : MdCtx w P s va l v w' :=
  ⟨(hb.block _ (by omega)).trans h.res, (hb.block _ (by omega)).trans h.box, h.bel.trans (hb.mono (by omega)), Nat.le_trans h.big hb.size, h.args.imp (fun _ h => h) fun b h _ => hb.block b (by have := h.2; omega)⟩
theorem MdCtx.store {w : World} {P : Nat → Prop} {s : ByteArray} {va : Value} {l : List Tm} {v v' : Value} {wr : World} (h : MdCtx w P s va l v wr) : MdCtx w P s va l v' (wr.setCell ⟨w.heap.size + 3, 3, none⟩ v') := by
  have ne := fun (k : Nat) (hk : k ≠ w.heap.size + 3) => Below.heap_setCell wr ⟨w.heap.size + 3, 3, none⟩ v' k hk
  refine ⟨(ne _ (by omega)).trans h.res, ?_, h.bel.setCell (show w.heap.size ≤ w.heap.size + 3 by omega) _, by simpa [World.setCell] using h.big, h.args.imp (fun _ h => h) fun b h _ => ne b (by have := h.2; omega)⟩
  have := heap_setCell_same wr (w.heap.size + 3) 3 _ _ v' h.box
  simpa using this

end Go.Proofs.Ytcbijikalfodnaa.Tms
namespace Go.Proofs.Ytcbijikalfodnaa.Tms
open Go Go.RowKit
set_option linter.unusedVariables false

mutual
def mayT : Tm → Bool
  | .mk k n s a => mayB k n s a.length && mayTL a
def mayTL : List Tm → Bool
  | [] => true
  | t :: l => mayT t && mayTL l
end
mutual
def deepT : Tm → Nat
  | .mk _ _ _ a => deepL a + 1
def deepL : List Tm → Nat
  | [] => 0
  | t :: l => max (deepT t) (deepL l)
end
mutual
theorem meas_parts : ∀ (t : Tm) (st : Bool × Int × Int) (d : Int), meas st (parts d t) = (st.1 || !mayT t, st.2.1 + t.size, max st.2.2 (d - 1 + deepT t))
  | .mk k n s a, st, d => by
    rw [parts]
    simp only [meas]
    have h := meas_partsL a (st.1 || !mayB k n s a.length, st.2.1 + 1, max st.2.2 d) (d + 1) (by simp only []; omega)
    show meas (st.1 || !mayB k n s a.length, st.2.1 + 1, max st.2.2 d) (partsL (d + 1) a) = _
    rw [h]
    simp only [mayT, Tm.size, deepT, Prod.mk.injEq]
    refine ⟨?_, ?_, ?_⟩
    · cases st.1 <;> cases mayB k n s a.length <;> cases mayTL a <;> rfl
    · omega
    · omega
theorem meas_partsL : ∀ (l : List Tm) (st : Bool × Int × Int) (d : Int), d - 1 ≤ st.2.2 → meas st (partsL d l) = (st.1 || !mayTL l, st.2.1 + sizeL l, max st.2.2 (d - 1 + deepL l))
  | [], st, d, hd => by
    simp only [partsL, meas, mayTL, sizeL, deepL, Bool.not_true, Bool.or_false]
    obtain ⟨b, x, y⟩ := st
    simp only [Prod.mk.injEq, true_and] at hd ⊢
    omega
  | t :: l, st, d, hd => by
    rw [partsL, meas_app, meas_parts t st d, meas_partsL l _ d (by simp only []; omega)]
    simp only [mayTL, sizeL, deepL, Prod.mk.injEq]
    refine ⟨?_, ?_, ?_⟩
    · cases st.1 <;> cases mayT t <;> cases mayTL l <;> rfl
    · omega
    · omega
end
theorem msT_eq (t : Tm) : msT t = (!mayT t, (t.size : Int), (deepT t : Int)) := by
  unfold msT
  rw [meas_parts]
  simp only [Prod.mk.injEq, Bool.false_or, true_and]
  omega
theorem checkT_eq (t : Tm) : checkT t = if mayT t = false then 2 else if 2000 < deepT t then 4 else if 20000 < t.size then 3 else 0 := by
  unfold checkT
  rw [msT_eq]
  simp only []
  cases mayT t
  · simp
  · have h1 : ((2000 : Int) < (deepT t : Int)) ↔ 2000 < deepT t := by omega
    have h2 : ((20000 : Int) < (t.size : Int)) ↔ 20000 < t.size := by omega
    simp only [h1, h2]
    simp
mutual
theorem deep_le : ∀ t : Tm, deepT t ≤ t.size
  | .mk k n s a => by have := deepL_le a; simp only [deepT, Tm.size]; omega
theorem deepL_le : ∀ l : List Tm, deepL l ≤ sizeL l
  | [] => by simp [deepL, sizeL]
  | t :: l => by have := deep_le t; have := deepL_le l; simp only [deepL, sizeL]; omega
end
end Go.Proofs.Ytcbijikalfodnaa.Tms
namespace Go.Proofs.Ytcbijikalfodnaa.Tms
open Go Go.RowKit
set_option linter.unusedVariables false

mutual
def arT : Tm → Bool
  | .mk _ _ _ a => decide (a.length ≤ 7) && arL a
def arL : List Tm → Bool
  | [] => true
  | t :: l => arT t && arL l
end
theorem atomA_may : mayT atomA = true := by decide +kernel
mutual
theorem mend_may : ∀ t : Tm, arT t = true → mayT (mendT t) = true
  | .mk k n s a, h => by
    simp only [arT, Bool.and_eq_true, decide_eq_true_eq] at h
    have hl := mendL_may a h.2
    unfold mendT
    by_cases h1 : 20 < s.size
    · rw [if_pos h1]; exact atomA_may
    rw [if_neg h1]
    by_cases k1 : k = 1
    · rw [if_pos k1]
      have : (0 : Int) ≤ max 0 n := by omega
      simp [mayT, mayTL, mayB, this]
    rw [if_neg k1]
    by_cases k2 : k = 2
    · rw [if_pos k2]; simp [mayT, mayTL, mayB]
    rw [if_neg k2]
    by_cases k3 : k = 3
    · rw [if_pos k3]
      have : s.size ≤ 1000 := by omega
      simp [mayT, mayTL, mayB, this]
    rw [if_neg k3]
    by_cases k4 : k = 4
    · rw [if_pos k4]
      by_cases ha : a.length = 0
      · rw [if_pos ha]; exact atomA_may
      rw [if_neg ha]
      have h2 : (mendL a).length = a.length := by rw [mendL_map]; simp
      have h3 : s.size ≤ 1000 := by omega
      have h4 : 1 ≤ a.length := by omega
      have h5 : a.length ≤ 255 := by omega
      simp only [mayT, hl, Bool.and_true, h2]
      simp [mayB, h3, h4, h5]
    · rw [if_neg k4]; exact atomA_may
theorem mendL_may : ∀ l : List Tm, arL l = true → mayTL (mendL l) = true
  | [], _ => by simp [mendL, mayTL]
  | t :: l, h => by
    simp only [arL, Bool.and_eq_true] at h
    simp [mendL, mayTL, mend_may t h.1, mendL_may l h.2]
end
theorem check_zero {t : Tm} (h : mayT t = true) (hs : t.size ≤ 2000) : checkT t = 0 := by
  have := deep_le t
  rw [checkT_eq, h, if_neg (by simp), if_neg (by omega), if_neg (by omega)]
theorem check_may {t : Tm} (h : checkT t = 0) : mayT t = true := by
  rw [checkT_eq] at h
  cases hm : mayT t
  · rw [hm] at h; simp at h
  · rfl
theorem may_kind {t : Tm} (h : mayT t = true) : t.k = 1 ∨ t.k = 2 ∨ t.k = 3 ∨ t.k = 4 := by
  obtain ⟨k, n, s, a⟩ := t
  simp only [mayT, Bool.and_eq_true, mayB] at h
  simp only [Tm.k]
  by_cases h1 : k = 1
  · exact .inl h1
  by_cases h2 : k = 2
  · exact .inr (.inl h2)
  by_cases h3 : k = 3
  · exact .inr (.inr (.inl h3))
  by_cases h4 : k = 4
  · exact .inr (.inr (.inr h4))
  simp_all
theorem may_arg {t x : Tm} (h : mayT t = true) (hx : x ∈ t.args) : mayT x = true := by
  obtain ⟨k, n, s, a⟩ := t
  simp only [mayT, Bool.and_eq_true] at h
  simp only [Tm.args] at hx
  have key : ∀ l : List Tm, mayTL l = true → x ∈ l → mayT x = true := by
    intro l
    induction l with
    | nil => simp
    | cons y l ih =>
      intro h1 h2
      simp only [mayTL, Bool.and_eq_true] at h1
      rcases List.mem_cons.1 h2 with rfl | h2
      · exact h1.1
      · exact ih h1.2 h2
  exact key a h.2 hx
theorem may_var {t : Tm} (h : mayT t = true) (k1 : t.k = 1) : t.args = [] := by
  obtain ⟨k, n, s, a⟩ := t
  simp only [Tm.k] at k1
  subst k1
  simp only [mayT, Bool.and_eq_true, mayB] at h
  simp only [Tm.args]
  simp at h
  exact h.1.2.2
abbrev aggT (t : Tm) (a : Option Addr) (c : Nat) : Value := .agg #[.int .i64 t.k, .int .i64 t.n, .string t.s, .slice a t.args.length c]
abbrev rowT (t : Tm) (a : Option Addr) (c : Nat) : Obj := .cells #[.int .i64 t.k, .int .i64 t.n, .string t.s, .slice a t.args.length c] 49 (0, 0)
theorem below_new (w : World) (o : Obj) : Below w.heap.size w (w.alloc o) := (Below.refl _ _).alloc (Nat.le_refl _) _
end Go.Proofs.Ytcbijikalfodnaa.Tms
namespace Go.Proofs.Ytcbijikalfodnaa.Tms
open Go Go.RowKit

def cmpI (a b : Int) : Int := if a < b then -1 else if b < a then 1 else 0

/-- two parts, but for their Args -/
def cmpHead (a b : Tm) : Int :=
  if cmpI a.k b.k ≠ 0 then cmpI a.k b.k else if cmpI a.args.length b.args.length ≠ 0 then cmpI a.args.length b.args.length else if cmpI a.n b.n ≠ 0 then cmpI a.n b.n else Lib.compareBytes a.s.data.toList b.s.data.toList

end Go.Proofs.Ytcbijikalfodnaa.Tms
namespace Go.Proofs.Ytcbijikalfodnaa.Tms
open Go Go.RowKit
set_option linter.unusedVariables false

mutual
/-- the order of terms: the parts from the left, each ahead of its Args -/
def cmpT : Tm → Tm → Int
  | .mk k n s a, .mk k' n' s' a' => if cmpHead (.mk k n s a) (.mk k' n' s' a') ≠ 0 then cmpHead (.mk k n s a) (.mk k' n' s' a') else cmpL a a'
def cmpL : List Tm → List Tm → Int
  | t :: ts, u :: us => if cmpT t u ≠ 0 then cmpT t u else cmpL ts us
  | _, _ => 0
end
theorem cmpHead_len {t u : Tm} (h : cmpHead t u = 0) : t.args.length = u.args.length := by
  have key : ∀ a b : Int, cmpI a b = 0 → a = b := fun a b h => by
    unfold cmpI at h
    by_cases h1 : a < b
    · rw [if_pos h1] at h; omega
    · by_cases h2 : b < a
      · rw [if_neg h1, if_pos h2] at h; omega
      · omega
  unfold cmpHead at h
  by_cases q1 : cmpI t.k u.k = 0
  · by_cases q2 : cmpI t.args.length u.args.length = 0
    · have := key _ _ q2; omega
    · rw [if_neg (by simpa using q1), if_pos q2] at h; exact absurd h q2
  · rw [if_pos q1] at h; exact absurd h q1

def flatP : List (Tm × Tm) → List Tm
  | [] => []
  | p :: l => p.1 :: p.2 :: flatP l
theorem CellsOf.len {w : World} {P : Nat → Prop} : ∀ {xs : List Value} {ts : List Tm}, CellsOf w P xs ts → xs.length = 4 * ts.length
  | [], [], _ => rfl
  | _ :: _ :: _ :: _ :: _, _ :: _, ⟨_, _, _, _, h⟩ => by have := CellsOf.len h; simp; omega
  | [], _ :: _, h => h.elim
  | _ :: [], [], h => h.elim
  | _ :: [], _ :: _, h => h.elim
  | _ :: _ :: [], [], h => h.elim
  | _ :: _ :: [], _ :: _, h => h.elim
  | _ :: _ :: _ :: [], [], h => h.elim
  | _ :: _ :: _ :: [], _ :: _, h => h.elim
  | _ :: _ :: _ :: _ :: _, [], h => h.elim
theorem CellsOf.split {w : World} {P : Nat → Prop} : ∀ {us : List Tm} {xs : List Value} {ts : List Tm}, CellsOf w P xs (us ++ ts) → ∃ ys zs, xs = ys ++ zs ∧ CellsOf w P ys us ∧ CellsOf w P zs ts
  | [], xs, ts, h => ⟨[], xs, rfl, trivial, h⟩
  | u :: us, k :: n :: s :: l :: rest, ts, ⟨h1, h2, h3, h4, h5⟩ => by
    obtain ⟨ys, zs, e, h6, h7⟩ := CellsOf.split h5
    exact ⟨k :: n :: s :: l :: ys, zs, by simp [e], ⟨h1, h2, h3, h4, h6⟩, h7⟩
  | _ :: _, [], _, h => h.elim
  | _ :: _, _ :: [], _, h => h.elim
  | _ :: _, _ :: _ :: [], _, h => h.elim
  | _ :: _, _ :: _ :: _ :: [], _, h => h.elim
end Go.Proofs.Ytcbijikalfodnaa.Tms
namespace Go.Proofs.Ytcbijikalfodnaa.Tms
open Go Go.RowKit Go.Proofs.Ytcbijikalfodnaa.Reg
set_option linter.unusedVariables false

end Go.Proofs.Ytcbijikalfodnaa.Tms
namespace Go.Proofs.Ytcbijikalfodnaa.Tms
open Go Go.RowKit
set_option linter.unusedVariables false

/-- how three stand: p of x and y, q of y and z, r of x and z -/
def T3 (p q r : Int) : Prop := (p ≤ 0 → q ≤ 0 → r ≤ 0 ∧ (r = 0 → p = 0 ∧ q = 0)) ∧ (p = 0 → r = q) ∧ (q = 0 → r = p)
def lex (a b : Int) : Int := if a ≠ 0 then a else b
theorem lex_neg (a b : Int) : lex (-a) (-b) = -lex a b := by
  unfold lex
  by_cases h : a = 0
  · rw [if_neg (by omega), if_neg (by omega)]
  · rw [if_pos (by omega), if_pos h]
theorem lex_zero {a b : Int} : lex a b = 0 ↔ a = 0 ∧ b = 0 := by
  unfold lex
  by_cases h : a = 0
  · rw [if_neg (by omega)]; omega
  · rw [if_pos h]; omega
theorem T3.lex {p1 q1 r1 p2 q2 r2 : Int} (h : T3 p1 q1 r1) (h' : p1 = 0 → q1 = 0 → T3 p2 q2 r2) : T3 (lex p1 p2) (lex q1 q2) (lex r1 r2) := by
  obtain ⟨h1, h2, h3⟩ := h
  unfold Tms.lex
  by_cases hp : p1 = 0
  · have hr := h2 hp
    by_cases hq : q1 = 0
    · rw [if_neg (by omega), if_neg (by omega), if_neg (by omega)]
      exact h' hp hq
    · rw [if_neg (by omega), if_pos hq, if_pos (by omega)]
      unfold T3
      refine ⟨fun _ _ => ⟨by omega, by omega⟩, fun _ => by omega, fun _ => by omega⟩
  · by_cases hq : q1 = 0
    · have hr := h3 hq
      rw [if_pos hp, if_neg (by omega), if_pos (by omega)]
      unfold T3
      refine ⟨fun _ _ => ⟨by omega, by omega⟩, fun _ => by omega, fun _ => by omega⟩
    · rw [if_pos hp, if_pos hq]
      unfold T3
      refine ⟨fun hp' hq' => ?_, fun _ => by omega, fun _ => by omega⟩
      obtain ⟨h4, h5⟩ := h1 hp' hq'
      by_cases hr : r1 = 0
      · exact absurd (h5 hr).1 hp
      · rw [if_pos hr]; omega
theorem cmpI_neg (a b : Int) : cmpI a b = -cmpI b a := by unfold cmpI; repeat' split; all_goals omega
theorem cmpI_zero {a b : Int} : cmpI a b = 0 ↔ a = b := by unfold cmpI; repeat' split; all_goals omega
theorem cmpI_T3 (a b c : Int) : T3 (cmpI a b) (cmpI b c) (cmpI a c) := by
  unfold T3 cmpI
  repeat' split
  all_goals omega

theorem bytes_toList (b : ByteArray) : b.toList = b.data.toList := ByteArray.toList_eq b
theorem cmpB_cons (a b : UInt8) (al bl : List UInt8) : Lib.compareBytes (a :: al) (b :: bl) = lex (cmpI a.toNat b.toNat) (Lib.compareBytes al bl) := by
  unfold lex cmpI
  rw [Lib.compareBytes]
  by_cases h1 : a < b
  · have : (a.toNat : Int) < b.toNat := by have := UInt8.lt_iff_toNat_lt.1 h1; omega
    simp [h1, this]
  · by_cases h2 : b < a
    · have h3 : (b.toNat : Int) < a.toNat := by have := UInt8.lt_iff_toNat_lt.1 h2; omega
      have h4 : ¬ (a.toNat : Int) < b.toNat := by omega
      simp only [h1, h2, h3, h4, if_true, if_false]
      rfl
    · have h3 : ¬ (b.toNat : Int) < a.toNat := fun h => h2 (UInt8.lt_iff_toNat_lt.2 (by omega))
      have h4 : ¬ (a.toNat : Int) < b.toNat := fun h => h1 (UInt8.lt_iff_toNat_lt.2 (by omega))
      simp only [h1, h2, h3, h4, if_false]
      rfl
theorem cmpB_neg : ∀ a b : List UInt8, Lib.compareBytes a b = -Lib.compareBytes b a
  | [], [] => by rw [Lib.compareBytes]; rfl
  | [], _ :: _ => by rw [Lib.compareBytes, Lib.compareBytes]
  | _ :: _, [] => by rw [Lib.compareBytes, Lib.compareBytes]; rfl
  | a :: al, b :: bl => by rw [cmpB_cons, cmpB_cons, cmpI_neg, cmpB_neg al bl, lex_neg]
theorem cmpB_zero : ∀ {a b : List UInt8}, Lib.compareBytes a b = 0 ↔ a = b
  | [], [] => by simp [Lib.compareBytes]
  | [], _ :: _ => by simp [Lib.compareBytes]
  | _ :: _, [] => by simp [Lib.compareBytes]
  | a :: al, b :: bl => by
    rw [cmpB_cons, lex_zero, cmpI_zero, cmpB_zero, List.cons.injEq]
    constructor
    · rintro ⟨h, h'⟩
      exact ⟨UInt8.toNat_inj.1 (by omega), h'⟩
    · rintro ⟨rfl, h'⟩
      exact ⟨rfl, h'⟩
theorem cmpB_T3 : ∀ a b c : List UInt8, T3 (Lib.compareBytes a b) (Lib.compareBytes b c) (Lib.compareBytes a c)
  | [], [], [] => by simp [T3, Lib.compareBytes]
  | [], [], _ :: _ => by simp [T3, Lib.compareBytes]
  | [], _ :: _, [] => by simp [T3, Lib.compareBytes]
  | [], b :: bl, c :: cl => by
    simp only [T3, Lib.compareBytes]
    refine ⟨fun _ _ => ⟨by omega, by omega⟩, by omega, by simp⟩
  | _ :: _, [], [] => by simp [T3, Lib.compareBytes]
  | a :: al, [], c :: cl => by
    simp only [T3, Lib.compareBytes]
    refine ⟨by omega, by omega, by omega⟩
  | a :: al, b :: bl, [] => by
    simp only [T3, Lib.compareBytes]
    refine ⟨by omega, by simp, by omega⟩
  | a :: al, b :: bl, c :: cl => by
    rw [cmpB_cons, cmpB_cons, cmpB_cons]
    exact T3.lex (cmpI_T3 _ _ _) fun _ _ => cmpB_T3 al bl cl

theorem cmpHead_lex (t u : Tm) : cmpHead t u = lex (cmpI t.k u.k) (lex (cmpI t.args.length u.args.length) (lex (cmpI t.n u.n) (Lib.compareBytes t.s.data.toList u.s.data.toList))) := rfl
theorem cmpT_lex (t u : Tm) : cmpT t u = lex (cmpHead t u) (cmpL t.args u.args) := by
  obtain ⟨k, n, s, a⟩ := t
  obtain ⟨k', n', s', a'⟩ := u
  rw [cmpT]
  rfl
theorem cmpL_cons (t u : Tm) (ts us : List Tm) : cmpL (t :: ts) (u :: us) = lex (cmpT t u) (cmpL ts us) := by rw [cmpL]; rfl
theorem cmpHead_neg (t u : Tm) : cmpHead t u = -cmpHead u t := by
  rw [cmpHead_lex, cmpHead_lex, cmpI_neg t.k, cmpI_neg t.args.length, cmpI_neg t.n, cmpB_neg, lex_neg, lex_neg, lex_neg]
theorem cmpHead_T3 (x y z : Tm) : T3 (cmpHead x y) (cmpHead y z) (cmpHead x z) := by
  rw [cmpHead_lex, cmpHead_lex, cmpHead_lex]
  exact (cmpI_T3 _ _ _).lex fun _ _ => (cmpI_T3 _ _ _).lex fun _ _ => (cmpI_T3 _ _ _).lex fun _ _ => cmpB_T3 _ _ _
mutual
theorem cmpT_neg : ∀ t u : Tm, cmpT t u = -cmpT u t
  | .mk k n s a, .mk k' n' s' a' => by
    rw [cmpT_lex, cmpT_lex, cmpHead_neg, ← lex_neg]
    show lex _ (cmpL a a') = lex _ (-cmpL a' a)
    rw [cmpL_neg a a']
theorem cmpL_neg : ∀ l m : List Tm, cmpL l m = -cmpL m l
  | [], [] => by simp [cmpL]
  | [], _ :: _ => by simp [cmpL]
  | _ :: _, [] => by simp [cmpL]
  | t :: l, u :: m => by rw [cmpL_cons, cmpL_cons, cmpT_neg t u, cmpL_neg l m, lex_neg]
end
mutual
theorem cmpT_T3 : ∀ x y z : Tm, T3 (cmpT x y) (cmpT y z) (cmpT x z)
  | .mk k n s a, y, z => by
    rw [cmpT_lex, cmpT_lex, cmpT_lex]
    exact (cmpHead_T3 _ _ _).lex fun h1 h2 => cmpL_T3 a y.args z.args (cmpHead_len h1) (cmpHead_len h2)
theorem cmpL_T3 : ∀ l m n : List Tm, l.length = m.length → m.length = n.length → T3 (cmpL l m) (cmpL m n) (cmpL l n)
  | [], [], [], _, _ => by simp [cmpL, T3]
  | t :: l, u :: m, v :: n, h1, h2 => by
    rw [cmpL_cons, cmpL_cons, cmpL_cons]
    exact (cmpT_T3 t u v).lex fun _ _ => cmpL_T3 l m n (by simpa using h1) (by simpa using h2)
  | [], [], _ :: _, _, h => by simp at h
  | [], _ :: _, _, h, _ => by simp at h
  | _ :: _, [], _, h, _ => by simp at h
  | _ :: _, _ :: _, [], _, h => by simp at h
end
mutual
theorem cmpT_same : ∀ t u : Tm, cmpT t u = 0 ↔ sameT t u = true
  | .mk k n s a, .mk k' n' s' a' => by
    rw [cmpT_lex, lex_zero, cmpHead_lex, lex_zero, lex_zero, lex_zero, cmpI_zero, cmpI_zero, cmpI_zero, cmpB_zero]
    simp only [Tm.k, Tm.n, Tm.s, Tm.args, sameT, Bool.and_eq_true, beq_iff_eq]
    constructor
    · rintro ⟨⟨h1, h2, h3, h4⟩, h5⟩
      have hs : s = s' := by cases s; cases s'; congr 1; exact Array.toList_inj.1 h4
      have hl : a.length = a'.length := by omega
      exact ⟨h1, h3, by rw [hs], hl, (cmpL_same a a' hl).1 h5⟩
    · rintro ⟨h1, h2, h3, h4, h5⟩
      have hs : s.data.toList = s'.data.toList := by rw [← bytes_toList, ← bytes_toList, h3]
      exact ⟨⟨h1, by omega, h2, hs⟩, (cmpL_same a a' h4).2 h5⟩
theorem cmpL_same : ∀ l m : List Tm, l.length = m.length → (cmpL l m = 0 ↔ sameL l m = true)
  | [], [], _ => by simp [cmpL, sameL]
  | t :: l, u :: m, h => by
    rw [cmpL_cons, lex_zero, cmpT_same t u, cmpL_same l m (by simpa using h)]
    simp [sameL]
  | [], _ :: _, h => by simp at h
  | _ :: _, [], h => by simp at h
end
def R3 (a : Int) : Prop := a = -1 ∨ a = 0 ∨ a = 1
theorem R3.lex {a b : Int} (ha : R3 a) (hb : R3 b) : R3 (lex a b) := by
  unfold Tms.lex
  split
  · exact ha
  · exact hb
theorem cmpI_range (a b : Int) : R3 (cmpI a b) := by unfold R3 cmpI; repeat' split; all_goals omega
theorem cmpB_range : ∀ a b : List UInt8, R3 (Lib.compareBytes a b)
  | [], [] => by simp [R3, Lib.compareBytes]
  | [], _ :: _ => by simp [R3, Lib.compareBytes]
  | _ :: _, [] => by simp [R3, Lib.compareBytes]
  | a :: al, b :: bl => by rw [cmpB_cons]; exact (cmpI_range _ _).lex (cmpB_range al bl)
theorem cmpHead_range (t u : Tm) : R3 (cmpHead t u) := by
  rw [cmpHead_lex]
  exact (cmpI_range _ _).lex ((cmpI_range _ _).lex ((cmpI_range _ _).lex (cmpB_range _ _)))
mutual
theorem cmpT_range : ∀ t u : Tm, R3 (cmpT t u)
  | .mk k n s a, u => by rw [cmpT_lex]; exact (cmpHead_range _ _).lex (cmpL_range a u.args)
theorem cmpL_range : ∀ l m : List Tm, R3 (cmpL l m)
  | [], [] => by simp [cmpL, R3]
  | [], _ :: _ => by simp [cmpL, R3]
  | _ :: _, [] => by simp [cmpL, R3]
  | t :: l, u :: m => by rw [cmpL_cons]; exact (cmpT_range t u).lex (cmpL_range l m)
end
end Go.Proofs.Ytcbijikalfodnaa.Tms
namespace Go.Proofs.Ytcbijikalfodnaa.Tms
open Go Go.RowKit
set_option linter.unusedVariables false

mutual
theorem renT_size (φ : Int → Int) : ∀ t : Tm, (renT φ t).size = t.size
  | .mk k n s a => by simp only [renT, Tm.size, renL_size φ a]
theorem renL_size (φ : Int → Int) : ∀ l : List Tm, sizeL (renL φ l) = sizeL l
  | [] => by simp [renL, sizeL]
  | t :: l => by simp only [renL, sizeL, renT_size φ t, renL_size φ l]
end
mutual
theorem renT_deep (φ : Int → Int) : ∀ t : Tm, deepT (renT φ t) = deepT t
  | .mk k n s a => by simp only [renT, deepT, renL_deep φ a]
theorem renL_deep (φ : Int → Int) : ∀ l : List Tm, deepL (renL φ l) = deepL l
  | [] => by simp [renL, deepL]
  | t :: l => by simp only [renL, deepL, renT_deep φ t, renL_deep φ l]
end
mutual
theorem flatT_ren (φ : Int → Int) : ∀ t : Tm, flatT (renT φ t) = (flatT t).map fun p => (renT φ p.1, p.2)
  | .mk k n s a => by simp only [renT, flatT, List.map_cons, flatL_ren φ a]
theorem flatL_ren (φ : Int → Int) : ∀ l : List Tm, flatL (renL φ l) = (flatL l).map fun p => (renT φ p.1, p.2)
  | [] => by simp [renL, flatL]
  | t :: l => by simp only [renL, flatL, List.map_append, flatT_ren φ t, flatL_ren φ l]
end
mutual
theorem renT_fix (φ : Int → Int) : ∀ t : Tm, (∀ p ∈ flatT t, p.1.k = 1 → φ p.1.n = p.1.n) → renT φ t = t
  | .mk k n s a, h => by
    rw [renT, renL_fix φ a fun p hp => h p (by rw [flatT]; exact List.mem_cons_of_mem _ hp)]
    congr 1
    split
    · rename_i hk
      exact h (.mk k n s a, 0) (by rw [flatT]; exact List.mem_cons_self ..) hk
    · rfl
theorem renL_fix (φ : Int → Int) : ∀ l : List Tm, (∀ p ∈ flatL l, p.1.k = 1 → φ p.1.n = p.1.n) → renL φ l = l
  | [], _ => by simp [renL]
  | t :: l, h => by
    rw [renL, renT_fix φ t fun p hp => h p (by rw [flatL]; exact List.mem_append_left _ hp), renL_fix φ l fun p hp => h p (by rw [flatL]; exact List.mem_append_right _ hp)]
end
end Go.Proofs.Ytcbijikalfodnaa.Tms
namespace Go.Proofs.Ytcbijikalfodnaa.Tms
open Go Go.RowKit Go.Proofs.Ytcbijikalfodnaa.Cod
set_option linter.unusedVariables false

mutual
/-- the numbers of a term's variables, from the left -/
def occT : Tm → List Int
  | .mk k n _ a => if k = 1 then n :: occL a else occL a
def occL : List Tm → List Int
  | [] => []
  | t :: l => occT t ++ occL l
end
mutual
/-- a term's instructions, and the slots that were met: 'one': is a variable there just once? -/
def patT (one : Int → Bool) (S : List Int) : Tm → List Ins × List Int
  | .mk k n s a =>
    if k = 1 then (if one n = true then ([⟨1, 0, 0, ⟨#[]⟩⟩], S) else match place S n with
      | some p => ([⟨3, (p : Nat), 0, ⟨#[]⟩⟩], S)
      | none => ([⟨2, S.length, 0, ⟨#[]⟩⟩], S ++ [n]))
    else if k = 2 then ([⟨4, 0, n, ⟨#[]⟩⟩], S) else if k = 3 then ([⟨5, 0, 0, s⟩], S)
    else (⟨6, a.length, 0, s⟩ :: (patL one S a).1, (patL one S a).2)
def patL (one : Int → Bool) (S : List Int) : List Tm → List Ins × List Int
  | [] => ([], S)
  | t :: l => ((patT one S t).1 ++ (patL one (patT one S t).2 l).1, (patL one (patT one S t).2 l).2)
end
theorem place_map {φ : Int → Int} {V : Int → Prop} (hφ : ∀ x y, V x → V y → φ x = φ y → x = y) : ∀ (S : List Int) (n : Int), (∀ x ∈ S, V x) → V n → place (S.map φ) (φ n) = place S n
  | [], n, _, _ => rfl
  | x :: S, n, hS, hn => by
    have ih := place_map hφ S n (fun y hy => hS y (List.mem_cons_of_mem _ hy)) hn
    simp only [List.map_cons, place, ih]
    by_cases h : n = x
    · rw [if_pos h, if_pos (by rw [h])]
    · rw [if_neg h, if_neg fun e => h (hφ n x hn (hS x (by simp)) e)]
mutual
theorem patT_ren {φ : Int → Int} {V : Int → Prop} {one one' : Int → Bool} (hφ : ∀ x y, V x → V y → φ x = φ y → x = y) (h1 : ∀ n, V n → one' (φ n) = one n) :
    ∀ (t : Tm) (S : List Int), (∀ x ∈ S, V x) → (∀ n ∈ occT t, V n) → patT one' (S.map φ) (renT φ t) = ((patT one S t).1, (patT one S t).2.map φ) ∧ ∀ x ∈ (patT one S t).2, V x
  | .mk k n s a, S, hS, ht => by
    by_cases k1 : k = 1
    · have hn : V n := ht n (by simp [occT, k1])
      have hr : renT φ (.mk k n s a) = .mk k (φ n) s (renL φ a) := by simp [renT, k1]
      rw [hr]
      unfold patT
      rw [if_pos k1, if_pos k1, h1 n hn, place_map hφ S n hS hn]
      by_cases ho : one n = true
      · rw [if_pos ho, if_pos ho]; exact ⟨rfl, hS⟩
      · rw [if_neg ho, if_neg ho]
        cases place S n with
        | some p => exact ⟨rfl, hS⟩
        | none =>
          refine ⟨by simp, fun x hx => ?_⟩
          rcases List.mem_append.1 hx with hx | hx
          · exact hS x hx
          · rw [List.mem_singleton.1 hx]; exact hn
    · have hr : renT φ (.mk k n s a) = .mk k n s (renL φ a) := by simp [renT, k1]
      have ho : ∀ m ∈ occL a, V m := fun m hm => ht m (by simp [occT, k1, hm])
      have hl := patL_ren hφ h1 a S hS ho
      have hlen : (renL φ a).length = a.length := by
        have : ∀ l : List Tm, (renL φ l).length = l.length := by
          intro l
          induction l with
          | nil => simp [renL]
          | cons t l ih => simp [renL, ih]
        exact this a
      rw [hr]
      unfold patT
      rw [if_neg k1, if_neg k1]
      by_cases k2 : k = 2
      · rw [if_pos k2, if_pos k2]; exact ⟨rfl, hS⟩
      rw [if_neg k2, if_neg k2]
      by_cases k3 : k = 3
      · rw [if_pos k3, if_pos k3]; exact ⟨rfl, hS⟩
      rw [if_neg k3, if_neg k3, hl.1, hlen]
      exact ⟨rfl, hl.2⟩
theorem patL_ren {φ : Int → Int} {V : Int → Prop} {one one' : Int → Bool} (hφ : ∀ x y, V x → V y → φ x = φ y → x = y) (h1 : ∀ n, V n → one' (φ n) = one n) :
    ∀ (l : List Tm) (S : List Int), (∀ x ∈ S, V x) → (∀ n ∈ occL l, V n) → patL one' (S.map φ) (renL φ l) = ((patL one S l).1, (patL one S l).2.map φ) ∧ ∀ x ∈ (patL one S l).2, V x
  | [], S, hS, _ => by simp only [renL, patL]; exact ⟨trivial, hS⟩
  | t :: l, S, hS, hl => by
    have ht := patT_ren hφ h1 t S hS fun n hn => hl n (by simp [occL, hn])
    have hr := patL_ren hφ h1 l (patT one S t).2 ht.2 fun n hn => hl n (by simp [occL, hn])
    simp only [renL, patL, ht.1, hr.1]
    exact ⟨trivial, hr.2⟩
end
end Go.Proofs.Ytcbijikalfodnaa.Tms
namespace Go.Proofs.Ytcbijikalfodnaa.Maps
open Go Go.RowKit Go.Instr
set_option linter.unusedVariables false

/-- what a number is told as -/
def mget : List (Int × Int) → Int → Option Int
  | [], _ => none
  | p :: l, n => if n = p.1 then some p.2 else mget l n
/-- a number is told as this from now on -/
def mset (n v : Int) : List (Int × Int) → List (Int × Int)
  | [] => [(n, v)]
  | p :: l => if n = p.1 then (p.1, v) :: l else p :: mset n v l
def kvE (e : MapEntry) : Value × Value := (e.key, e.val)
def kvI (p : Int × Int) : Value × Value := (.int .i64 p.1, .int .i64 p.2)
/-- block b is a map of these entries -/
def IMap (w : World) (b : Nat) (l : List (Int × Int)) : Prop := ∃ es c, w.heap[b]? = some (.map es c) ∧ es.toList.map kvE = l.map kvI

theorem mget_mset_same (n v : Int) : ∀ l, mget (mset n v l) n = some v
  | [] => by simp [mset, mget]
  | p :: l => by
    unfold mset
    by_cases h : n = p.1
    · rw [if_pos h]; simp [mget, h]
    · rw [if_neg h]; simp [mget, h, mget_mset_same n v l]
theorem mget_mset_other (n v m : Int) (hm : m ≠ n) : ∀ l, mget (mset n v l) m = mget l m
  | [] => by simp [mset, mget, hm]
  | p :: l => by
    unfold mset
    by_cases h : n = p.1
    · rw [if_pos h]; simp only [mget]; rw [if_neg fun e => hm (e.trans h.symm), if_neg fun e => hm (e.trans h.symm)]
    · rw [if_neg h]; simp only [mget]; by_cases h2 : m = p.1
      · rw [if_pos h2, if_pos h2]
      · rw [if_neg h2, if_neg h2, mget_mset_other n v m hm l]
theorem mset_new {n v : Int} : ∀ {l}, mget l n = none → mset n v l = l ++ [(n, v)]
  | [], _ => rfl
  | p :: l, h => by
    simp only [mget] at h
    split at h
    · cases h
    · rename_i hne
      simp only [mset, if_neg hne, List.cons_append]
      rw [mset_new h]
theorem find_list (k : IntKind) (n : Int) : ∀ (es : List MapEntry) (l : List (Int × Int)) (j : Nat), es.map kvE = l.map kvI →
    (mget l n = none ∧ findNow (.int k) (.int .i64 n) es j = some none) ∨
    ∃ v i, mget l n = some v ∧ findNow (.int k) (.int .i64 n) es j = some (some (j + i, .int .i64 v)) ∧ (es[i]?).map (·.key) = some (.int .i64 n) ∧ ∀ x, (es.modify i fun e => { e with key := .int .i64 n, val := .int .i64 x }).map kvE = (mset n x l).map kvI
  | [], [], j, _ => .inl ⟨rfl, rfl⟩
  | [], _ :: _, _, h => by simp at h
  | _ :: _, [], _, h => by simp at h
  | e :: es, p :: l, j, h => by
    simp only [List.map_cons, List.cons.injEq] at h
    obtain ⟨h1, h2⟩ := h
    simp only [kvE, kvI, Prod.mk.injEq] at h1
    obtain ⟨hk, hv⟩ := h1
    by_cases e1 : n = p.1
    · right
      refine ⟨p.2, 0, by simp [mget, e1], ?_, by simp [hk, e1], fun x => ?_⟩
      · simp [findNow, sameNow, hk, hv, e1]
      · simp only [List.modify_zero_cons, List.map_cons, mset, if_pos e1, h2]
        simp [kvE, kvI, e1]
    · have hb : (n == p.1) = false := by simpa using e1
      rcases find_list k n es l (j + 1) h2 with ⟨g1, g2⟩ | ⟨v, i, g1, g2, g3, g4⟩
      · left
        refine ⟨by simp [mget, e1, g1], ?_⟩
        simp only [findNow, sameNow, hk, if_true, hb]
        exact g2
      · right
        refine ⟨v, i + 1, by simp [mget, e1, g1], ?_, by simpa using g3, fun x => ?_⟩
        · simp only [findNow, sameNow, hk, if_true, hb]
          rw [g2, show j + 1 + i = j + (i + 1) by omega]
        · simp only [List.modify_succ_cons, List.map_cons, mset, if_neg e1, g4 x]
          simp [kvE, kvI, hk, hv]

theorem IMap.below {w w' : World} {b : Nat} {l : List (Int × Int)} (h : IMap w b l) (hk : w'.heap[b]? = w.heap[b]?) : IMap w' b l := by
  obtain ⟨es, c, h1, h2⟩ := h
  exact ⟨es, c, hk.trans h1, h2⟩
theorem IMap.lt {w : World} {b : Nat} {l : List (Int × Int)} (h : IMap w b l) : b < w.heap.size := by
  obtain ⟨es, c, h1, h2⟩ := h
  exact (Array.getElem?_eq_some_iff.1 h1).1
theorem IMap.made (w : World) : IMap (w.alloc (.map #[] 0)) w.heap.size [] := ⟨#[], 0, heap_alloc_new w _, rfl⟩

theorem wpList_imap_made {P : Program} {w : World} {ops : Array Oper} {rest : List Oper} {o : Oper} {a : Act} {Q : Exit → Act → World → Prop} (hgd : o.guard = none) (t : TypeId) (ho : o.op = .makeMap t none)
    (hK : wpList P ops Q rest (a.put o.dst (.map (some w.heap.size))) (w.alloc (.map #[] 0))) : wpList P ops Q (o :: rest) a w := by
  refine wpList_plain hgd fun K hK' => ?_
  have hrun := run_makeMap (P := P) t w
  unfold Oper.wp
  simp [execOp, ho, hrun, Result.andThen]
  exact hK' _ _ hK

theorem wpList_imap_ok {P : Program} {w : World} {ops : Array Oper} {rest : List Oper} {o : Oper} {a : Act} {Q : Exit → Act → World → Prop} (hgd : o.guard = none) (t : TypeId) (m k : Operand) (ho : o.op = .lookup t m k true) (kt et : TypeId) (kk : IntKind)
    (h : P.underlying t = some (.map kt et)) (hk : P.underlying kt = some (.int kk)) (b : Nat) (l : List (Int × Int)) (hm : a.eval m = .map (some b)) (hb : IMap w b l) (n : Int) (hn : a.eval k = .int .i64 n) (hz : ∀ w, (zeroValue et).run P w = .ok (.int .i64 0) w)
    (hK : wpList P ops Q rest (a.put o.dst (.tuple #[.int .i64 ((mget l n).getD 0), .bool (mget l n).isSome])) w) : wpList P ops Q (o :: rest) a w := by
  obtain ⟨es, c, h1, h2⟩ := hb
  rcases find_list kk n es.toList l 0 h2 with ⟨g1, g2⟩ | ⟨v, i, g1, g2, -, -⟩
  · refine wpList_lookup_now hgd t m k ho kt et _ h hk rfl b es c hm h1 none (by rw [hn]; exact g2) (.int .i64 0) hz ?_
    rw [g1] at hK; exact hK
  · refine wpList_lookup_now hgd t m k ho kt et _ h hk rfl b es c hm h1 (some (0 + i, .int .i64 v)) (by rw [hn]; exact g2) (.int .i64 0) hz ?_
    rw [g1] at hK; exact hK

theorem run_lookup_one {P : Program} (w : World) (t kt et : TypeId) (d : TypeDesc) (h : P.underlying t = some (.map kt et)) (hk : P.underlying kt = some d) (hp : plainKey d = true) (b : Nat) (key : Value) (es : Array MapEntry) (c : Nat)
    (hb : w.heap[b]? = some (.map es c)) (r : Option (Nat × Value)) (hf : findNow d key es.toList 0 = some r) (z : Value) (hz : ∀ w, (zeroValue et).run P w = .ok z w) :
    (Instr.lookup t (.map (some b)) key false).run P w = .ok ((r.map (·.2)).getD z) w := by
  unfold Instr.lookup
  simp only [Sem.run_bind, run_underlying h, Result.andThen_ok]
  cases r with
  | none => simp [getObj, Sem.run, hb, run_checkKey w _ 9999 kt d hk hp key, run_findKey w kt d hk key es.toList none hf, hz]
  | some r => simp [getObj, Sem.run, hb, run_checkKey w _ 9999 kt d hk hp key, run_findKey w kt d hk key es.toList (some r) hf]
theorem wpList_lookup_one {P : Program} {w : World} {ops : Array Oper} {rest : List Oper} {o : Oper} {a : Act} {Q : Exit → Act → World → Prop} (hgd : o.guard = none) (t : TypeId) (m k : Operand) (ho : o.op = .lookup t m k false) (kt et : TypeId) (d : TypeDesc)
    (h : P.underlying t = some (.map kt et)) (hk : P.underlying kt = some d) (hp : plainKey d = true) (b : Nat) (es : Array MapEntry) (c : Nat) (hm : a.eval m = .map (some b)) (hb : w.heap[b]? = some (.map es c)) (r : Option (Nat × Value))
    (hf : findNow d (a.eval k) es.toList 0 = some r) (z : Value) (hz : ∀ w, (zeroValue et).run P w = .ok z w)
    (hK : wpList P ops Q rest (a.put o.dst ((r.map (·.2)).getD z)) w) : wpList P ops Q (o :: rest) a w := by
  refine wpList_plain hgd fun K hK' => ?_
  have hrun := run_lookup_one (P := P) w t kt et d h hk hp b (a.eval k) es c hb r hf z hz
  unfold Oper.wp
  simp [execOp, ho, hm, hrun, Result.andThen]
  exact hK' _ _ hK
theorem wpList_imap_one {P : Program} {w : World} {ops : Array Oper} {rest : List Oper} {o : Oper} {a : Act} {Q : Exit → Act → World → Prop} (hgd : o.guard = none) (t : TypeId) (m k : Operand) (ho : o.op = .lookup t m k false) (kt et : TypeId) (kk : IntKind)
    (h : P.underlying t = some (.map kt et)) (hk : P.underlying kt = some (.int kk)) (b : Nat) (l : List (Int × Int)) (hm : a.eval m = .map (some b)) (hb : IMap w b l) (n : Int) (hn : a.eval k = .int .i64 n) (hz : ∀ w, (zeroValue et).run P w = .ok (.int .i64 0) w)
    (hK : wpList P ops Q rest (a.put o.dst (.int .i64 ((mget l n).getD 0))) w) : wpList P ops Q (o :: rest) a w := by
  obtain ⟨es, c, h1, h2⟩ := hb
  rcases find_list kk n es.toList l 0 h2 with ⟨g1, g2⟩ | ⟨v, i, g1, g2, -, -⟩
  · refine wpList_lookup_one hgd t m k ho kt et _ h hk rfl b es c hm h1 none (by rw [hn]; exact g2) (.int .i64 0) hz ?_
    rw [g1] at hK; exact hK
  · refine wpList_lookup_one hgd t m k ho kt et _ h hk rfl b es c hm h1 (some (0 + i, .int .i64 v)) (by rw [hn]; exact g2) (.int .i64 0) hz ?_
    rw [g1] at hK; exact hK

theorem run_insert_old {P : Program} (w : World) (t kt et : TypeId) (kk : IntKind) (h : P.underlying t = some (.map kt et)) (hk : P.underlying kt = some (.int kk)) (b : Nat) (n : Int) (val v : Value) (i : Nat) (es : Array MapEntry) (c : Nat)
    (hb : w.heap[b]? = some (.map es c)) (hf : findNow (.int kk) (.int .i64 n) es.toList 0 = some (some (i, v))) (hi : (es[i]?).map (·.key) = some (.int .i64 n)) :
    (Instr.mapUpdate t (.map (some b)) (.int .i64 n) val).run P w = .ok () (World.setObj' w b (.map (es.modify i fun e => { e with key := .int .i64 n, val := val }) c)) := by
  unfold Instr.mapUpdate
  simp only [Sem.run_bind, run_underlying h, Result.andThen_ok]
  have hs : sameBits 10000 (.int .i64 n) (.int .i64 n) = true := by simp [sameBits]
  simp [getObj, Sem.run, hb, run_checkKey w false 9999 kt _ hk rfl, run_findKey w kt _ hk (.int .i64 n) es.toList (some (i, v)) hf, setObj, World.setObj', hi, keyThatStays, hs]
theorem wpList_imap_set {P : Program} {w : World} {ops : Array Oper} {rest : List Oper} {o : Oper} {a : Act} {Q : Exit → Act → World → Prop} (hgd : o.guard = none) (t : TypeId) (m k x : Operand) (ho : o.op = .mapUpdate t m k x) (kt et : TypeId) (kk : IntKind)
    (h : P.underlying t = some (.map kt et)) (hk : P.underlying kt = some (.int kk)) (b : Nat) (l : List (Int × Int)) (hm : a.eval m = .map (some b)) (hb : IMap w b l) (n : Int) (hn : a.eval k = .int .i64 n) (v : Int) (hv : a.eval x = .int .i64 v)
    (hK : ∀ w', IMap w' b (mset n v l) → w.grownBy w' (some b) → wpList P ops Q rest (a.put o.dst undef) w') : wpList P ops Q (o :: rest) a w := by
  obtain ⟨es, c, h1, h2⟩ := hb
  have hlt := (Array.getElem?_eq_some_iff.1 h1).1
  refine wpList_plain hgd fun K hK' => ?_
  rcases find_list kk n es.toList l 0 h2 with ⟨g1, g2⟩ | ⟨v0, i, g1, g2, g3, g4⟩
  · have hrun := run_insert_new (P := P) w t kt et _ h hk rfl b (.int .i64 n) (.int .i64 v) es c h1 g2
    unfold Oper.wp
    simp [execOp, ho, hm, hn, hv, hrun, Result.andThen]
    refine hK' _ _ (hK _ ⟨_, _, setObj'_at _ _ _ hlt, ?_⟩ (setObj'_grown _ _ _))
    rw [mset_new g1]
    simp [h2, kvE, kvI]
  · rw [Nat.zero_add] at g2
    have hrun := run_insert_old (P := P) w t kt et kk h hk b n (.int .i64 v) _ i es c h1 g2 (by simpa using g3)
    unfold Oper.wp
    simp [execOp, ho, hm, hn, hv, hrun, Result.andThen]
    refine hK' _ _ (hK _ ⟨_, _, setObj'_at _ _ _ hlt, ?_⟩ (setObj'_grown _ _ _))
    rw [Array.toList_modify]
    exact g4 v
theorem wpList_imap_len {P : Program} {w : World} {ops : Array Oper} {rest : List Oper} {o : Oper} {a : Act} {Q : Exit → Act → World → Prop} (hgd : o.guard = none) (m : Operand) (t : TypeId) (ho : o.op = .call { callee := .builtin .len, args := #[m], argTypes := #[t] })
    (kt et : TypeId) (h : P.underlying t = some (.map kt et)) (b : Nat) (l : List (Int × Int)) (hm : a.eval m = .map (some b)) (hb : IMap w b l)
    (hK : wpList P ops Q rest (a.put o.dst (.int .i64 l.length)) w) : wpList P ops Q (o :: rest) a w := by
  obtain ⟨es, c, h1, h2⟩ := hb
  have hsz : es.size = l.length := by have := congrArg List.length h2; simpa using this
  refine wpList_plain hgd fun K hK' => ?_
  have hrun : (Builtin.len_ #[t] o.type #[.map (some b)]).run P w = .ok (.int .i64 l.length) w := by
    unfold Builtin.len_
    simp [Sem.run_bind, run_underlying h, getObj, Sem.run, h1, hsz]
    rfl
  unfold Oper.wp
  simp [execOp, ho, resolve, invoke, builtin, hm, hrun, Result.andThen]
  exact hK' _ _ hK
end Go.Proofs.Ytcbijikalfodnaa.Maps
namespace Go.Proofs.Ytcbijikalfodnaa.Maps
open Go Go.RowKit Go.Instr Go.ChangeMaps
set_option linter.unusedVariables false

/-- block b is a map of these entries, each born at a time of its own -/
def IMapB (w : World) (b : Nat) (l : List (Int × Int)) : Prop := ∃ es c, w.heap[b]? = some (.map es c) ∧ es.toList.map kvE = l.map kvI ∧ (∀ x ∈ es.toList, x.born < c) ∧ (es.toList.map (·.born)).Nodup
theorem IMapB.imap {w : World} {b : Nat} {l : List (Int × Int)} (h : IMapB w b l) : IMap w b l := let ⟨es, c, h1, h2, _⟩ := h; ⟨es, c, h1, h2⟩
theorem IMapB.below {w w' : World} {b : Nat} {l : List (Int × Int)} (h : IMapB w b l) (hk : w'.heap[b]? = w.heap[b]?) : IMapB w' b l := let ⟨es, c, h1, h2⟩ := h; ⟨es, c, hk.trans h1, h2⟩
theorem IMapB.lt {w : World} {b : Nat} {l : List (Int × Int)} (h : IMapB w b l) : b < w.heap.size := h.imap.lt
theorem IMapB.made (w : World) : IMapB (w.alloc (.map #[] 0)) w.heap.size [] := ⟨#[], 0, heap_alloc_new w _, rfl, by simp, by simp⟩
theorem wpList_imapb_set {P : Program} {w : World} {ops : Array Oper} {rest : List Oper} {o : Oper} {a : Act} {Q : Exit → Act → World → Prop} (hgd : o.guard = none) (t : TypeId) (m k x : Operand) (ho : o.op = .mapUpdate t m k x) (kt et : TypeId) (kk : IntKind)
    (h : P.underlying t = some (.map kt et)) (hk : P.underlying kt = some (.int kk)) (b : Nat) (l : List (Int × Int)) (hm : a.eval m = .map (some b)) (hb : IMapB w b l) (n : Int) (hn : a.eval k = .int .i64 n) (v : Int) (hv : a.eval x = .int .i64 v)
    (hK : ∀ w', IMapB w' b (mset n v l) → w.grownBy w' (some b) → wpList P ops Q rest (a.put o.dst undef) w') : wpList P ops Q (o :: rest) a w := by
  obtain ⟨es, c, h1, h2, h3, h4⟩ := hb
  have hlt := (Array.getElem?_eq_some_iff.1 h1).1
  refine wpList_plain hgd fun K hK' => ?_
  rcases find_list kk n es.toList l 0 h2 with ⟨g1, g2⟩ | ⟨v0, i, g1, g2, g3, g4⟩
  · have hrun := run_insert_new (P := P) w t kt et _ h hk rfl b (.int .i64 n) (.int .i64 v) es c h1 g2
    unfold Oper.wp
    simp [execOp, ho, hm, hn, hv, hrun, Result.andThen]
    refine hK' _ _ (hK _ ⟨_, _, setObj'_at _ _ _ hlt, ?_, ?_, ?_⟩ (setObj'_grown _ _ _))
    · rw [mset_new g1]
      simp [h2, kvE, kvI]
    · intro x hx
      simp only [Array.toList_push, List.mem_append, List.mem_singleton] at hx
      rcases hx with hx | rfl
      · have := h3 x hx; omega
      · simp
    · simp only [Array.toList_push, List.map_append, List.map_cons, List.map_nil]
      refine List.nodup_append.2 ⟨h4, by simp, fun x hx y hy => ?_⟩
      simp only [List.mem_map] at hx
      obtain ⟨z, hz, rfl⟩ := hx
      have := h3 z hz
      simp only [List.mem_singleton] at hy
      omega
  · rw [Nat.zero_add] at g2
    have hrun := run_insert_old (P := P) w t kt et kk h hk b n (.int .i64 v) _ i es c h1 g2 (by simpa using g3)
    unfold Oper.wp
    simp [execOp, ho, hm, hn, hv, hrun, Result.andThen]
    refine hK' _ _ (hK _ ⟨_, _, setObj'_at _ _ _ hlt, ?_, ?_, ?_⟩ (setObj'_grown _ _ _))
    · rw [Array.toList_modify]
      exact g4 v
    · rw [Array.toList_modify]
      intro x hx
      obtain ⟨j, hj, rfl⟩ := List.mem_iff_getElem.1 hx
      rw [List.getElem_modify]
      have hj' : j < es.toList.length := by simpa using hj
      have := h3 _ (List.getElem_mem hj')
      split <;> exact this
    · rw [Array.toList_modify]
      have : (es.toList.modify i fun e => { e with key := .int .i64 n, val := .int .i64 v }).map (·.born) = es.toList.map (·.born) := by
        apply List.ext_getElem (by simp)
        intro j h1 h2
        simp only [List.getElem_map, List.getElem_modify]
        split <;> rfl
      rw [this]; exact h4
/-- clear of a map -/
theorem wpList_imapb_clear {P : Program} {w : World} {ops : Array Oper} {rest : List Oper} {o : Oper} {a : Act} {Q : Exit → Act → World → Prop} (hgd : o.guard = none) (x : Operand) (t kt et : TypeId)
    (ho : o.op = .call { callee := .builtin .clear, args := #[x], argTypes := #[t] }) (h : P.underlying t = some (.map kt et)) (b : Nat) (l : List (Int × Int)) (hx : a.eval x = .map (some b)) (hb : IMapB w b l)
    (hK : ∀ w', IMapB w' b [] → w.grownBy w' (some b) → wpList P ops Q rest (a.put o.dst (.tuple #[])) w') : wpList P ops Q (o :: rest) a w := by
  obtain ⟨es, c, h1, h2, h3, h4⟩ := hb
  have hlt := (Array.getElem?_eq_some_iff.1 h1).1
  refine wpList_plain hgd fun K' hK' => ?_
  have hrun : (Builtin.clear_ #[t] o.type #[.map (some b)]).run P w = .ok (.tuple #[]) (World.setObj' w b (.map #[] c)) := by
    unfold Builtin.clear_
    simp only [List.getElem?_toArray, List.getElem?_cons_zero, Sem.run_bind, run_underlying h, Result.andThen_ok]
    rw [Array.getElem?_eq_getElem hlt] at h1
    have h1 := Option.some.inj h1
    simp [getObj, Sem.run, setObj, World.setObj', hlt, h1]
  unfold Oper.wp execOp
  simp only [ho, resolve, invoke, builtin, Sem.run_bind, Sem.run_pure, Result.andThen_ok, List.map_toArray, List.map_cons, List.map_nil, hx, hrun]
  exact hK' _ _ (hK _ ⟨#[], c, setObj'_at _ _ _ hlt, rfl, by simp, by simp⟩ (setObj'_grown _ _ _))
/-- a look into a map, nil perhaps -/
def VMap (w : World) (v : Value) (l : List (Int × Int)) : Prop := (v = .map none ∧ l = []) ∨ ∃ b, v = .map (some b) ∧ IMapB w b l
theorem run_lookup_nil {P : Program} (w : World) (t kt et : TypeId) (d : TypeDesc) (h : P.underlying t = some (.map kt et)) (hk : P.underlying kt = some d) (hp : plainKey d = true) (key : Value) (hf : findNow d key [] 0 = some none) (z : Value) (hz : ∀ w, (zeroValue et).run P w = .ok z w) :
    (Instr.lookup t (.map none) key true).run P w = .ok (.tuple #[z, .bool false]) w := by
  unfold Instr.lookup
  simp only [Sem.run_bind, run_underlying h, Result.andThen_ok]
  simp [run_checkKey w _ 9999 kt d hk hp key, run_findKey w kt d hk key [] none hf, hz]
theorem wpList_vmap_ok {P : Program} {w : World} {ops : Array Oper} {rest : List Oper} {o : Oper} {a : Act} {Q : Exit → Act → World → Prop} (hgd : o.guard = none) (t : TypeId) (m k : Operand) (ho : o.op = .lookup t m k true) (kt et : TypeId) (kk : IntKind)
    (h : P.underlying t = some (.map kt et)) (hk : P.underlying kt = some (.int kk)) (v : Value) (l : List (Int × Int)) (hm : a.eval m = v) (hb : VMap w v l) (n : Int) (hn : a.eval k = .int .i64 n) (hz : ∀ w, (zeroValue et).run P w = .ok (.int .i64 0) w)
    (hK : wpList P ops Q rest (a.put o.dst (.tuple #[.int .i64 ((mget l n).getD 0), .bool (mget l n).isSome])) w) : wpList P ops Q (o :: rest) a w := by
  rcases hb with ⟨rfl, rfl⟩ | ⟨b, rfl, hb⟩
  · refine wpList_plain hgd fun K hK' => ?_
    have hrun := run_lookup_nil (P := P) w t kt et _ h hk rfl (a.eval k) rfl (.int .i64 0) hz
    unfold Oper.wp
    simp [execOp, ho, hm, hrun, Result.andThen]
    exact hK' _ _ hK
  · exact wpList_imap_ok hgd t m k ho kt et kk h hk b l hm hb.imap n hn hz hK
theorem VMap.below {w w' : World} {v : Value} {l : List (Int × Int)} (h : VMap w v l) (hk : ∀ b, v = .map (some b) → w'.heap[b]? = w.heap[b]?) : VMap w' v l := by
  rcases h with h | ⟨b, rfl, h⟩
  · exact .inl h
  · exact .inr ⟨b, rfl, h.below (hk b rfl)⟩

/-! ### The range -/
/-- block r is an iterator over the map of block b; these entries are left -/
def ItAt (w : World) (r b : Nat) (rest : List (Int × Int)) : Prop := ∃ (es : Array MapEntry) (c : Nat) (seen : Array Nat), w.heap[r]? = some (.mapIter (some b) c seen c) ∧ w.heap[b]? = some (.map es c) ∧ (∀ x ∈ es.toList, x.born < c) ∧ (es.toList.map (·.born)).Nodup ∧ (leftOf es seen).toList.map kvE = rest.map kvI
/-- the same behind a step: this entry was handed out last -/
def ItNow (w : World) (r b : Nat) (p : Int × Int) (rest : List (Int × Int)) : Prop :=
  ∃ (es : Array MapEntry) (c : Nat) (seen : Array Nat) (e : MapEntry), w.heap[r]? = some (.mapIter (some b) c (seen.push e.born) c) ∧ w.heap[b]? = some (.map es c) ∧ (∀ x ∈ es.toList, x.born < c) ∧ (es.toList.map (·.born)).Nodup ∧ (leftOf es (seen.push e.born)).toList.map kvE = rest.map kvI ∧ e ∈ es.toList ∧ kvE e = kvI p
theorem ItNow.at {w : World} {r b : Nat} {p : Int × Int} {rest : List (Int × Int)} (h : ItNow w r b p rest) : ItAt w r b rest := let ⟨es, c, seen, e, h1, h2, h3, h4, h5, _⟩ := h; ⟨es, c, seen.push e.born, h1, h2, h3, h4, h5⟩
theorem ItAt.keep {w w' : World} {r b : Nat} {rest : List (Int × Int)} (h : ItAt w r b rest) (h1 : w'.heap[r]? = w.heap[r]?) (h2 : w'.heap[b]? = w.heap[b]?) : ItAt w' r b rest := let ⟨es, c, seen, g1, g2, g⟩ := h; ⟨es, c, seen, h1.trans g1, h2.trans g2, g⟩
theorem ItNow.keep {w w' : World} {r b : Nat} {p : Int × Int} {rest : List (Int × Int)} (h : ItNow w r b p rest) (h1 : w'.heap[r]? = w.heap[r]?) (h2 : w'.heap[b]? = w.heap[b]?) : ItNow w' r b p rest := let ⟨es, c, seen, e, g1, g2, g⟩ := h; ⟨es, c, seen, e, h1.trans g1, h2.trans g2, g⟩
theorem ItAt.lt {w : World} {r b : Nat} {rest : List (Int × Int)} (h : ItAt w r b rest) : r < w.heap.size ∧ b < w.heap.size ∧ r ≠ b := by
  obtain ⟨es, c, seen, g1, g2, -⟩ := h
  refine ⟨(Array.getElem?_eq_some_iff.1 g1).1, (Array.getElem?_eq_some_iff.1 g2).1, fun e => ?_⟩
  rw [e, g2] at g1
  simp at g1
theorem left_all (es : Array MapEntry) : leftOf es #[] = es := by simp [leftOf]
theorem wpList_it_range {P : Program} {w : World} {ops : Array Oper} {rest : List Oper} {o : Oper} {a : Act} {Q : Exit → Act → World → Prop} (hgd : o.guard = none) (t kt et : TypeId) (m : Operand) (ho : o.op = .range t m) (h : P.underlying t = some (.map kt et)) (b : Nat) (l : List (Int × Int))
    (hm : a.eval m = .map (some b)) (hb : IMapB w b l) (hK : ∀ w', ItAt w' w.heap.size b l → Below w.heap.size w w' → wpList P ops Q rest (a.put o.dst (.pointer (some ⟨w.heap.size, 0, none⟩))) w') : wpList P ops Q (o :: rest) a w := by
  obtain ⟨es, c, h1, h2, h3, h4⟩ := hb
  refine wpList_plain hgd fun K hK' => ?_
  have hrun := run_range_map (P := P) w t kt et b es c h h1
  unfold Oper.wp
  simp [execOp, ho, hm, hrun, Result.andThen]
  refine hK' _ _ (hK _ ⟨es, c, #[], heap_alloc_new w _, ?_, h3, h4, by rw [left_all]; exact h2⟩ ((Below.refl _ _).alloc (Nat.le_refl _) _))
  rw [heap_alloc_old w _ (Array.getElem?_eq_some_iff.1 h1).1]
  exact h1
theorem perm_strike {e : MapEntry} : ∀ {l : List MapEntry}, (l.map (·.born)).Nodup → e ∈ l → l.Perm (e :: l.filter fun x => !(x.born == e.born))
  | [], _, h => by cases h
  | x :: l, hn, h => by
    simp only [List.map_cons, List.nodup_cons] at hn
    rcases List.mem_cons.1 h with rfl | h
    · have hf : l.filter (fun x => !(x.born == e.born)) = l := List.filter_eq_self.2 fun y hy => by
        simp only [Bool.not_eq_true', beq_eq_false_iff_ne, ne_eq]
        intro e'
        exact hn.1 (List.mem_map.2 ⟨y, hy, e'⟩)
      simp [hf]
    · have hne : ¬ x.born = e.born := fun e' => hn.1 (List.mem_map.2 ⟨e, h, e'.symm⟩)
      have hx : (!(x.born == e.born)) = true := by simpa using hne
      rw [List.filter_cons_of_pos (by exact hx)]
      exact ((perm_strike hn.2 h).cons x).trans (List.Perm.swap _ _ _)
theorem left_push (es : Array MapEntry) (seen : Array Nat) (n : Nat) : (leftOf es (seen.push n)).toList = (leftOf es seen).toList.filter fun x => !(x.born == n) := by
  simp only [leftOf, Array.toList_filter, List.filter_filter]
  apply List.filter_congr
  intro x _
  simp only [Array.contains_push]
  cases h1 : seen.contains x.born <;> cases h2 : (x.born == n) <;> simp_all
theorem kv_of {L : List MapEntry} {l : List (Int × Int)} (h : L.map kvE = l.map kvI) {e : MapEntry} (he : e ∈ L) : ∃ p, p ∈ l ∧ kvE e = kvI p := by
  have : kvE e ∈ l.map kvI := by rw [← h]; exact List.mem_map.2 ⟨e, he, rfl⟩
  obtain ⟨p, hp, e'⟩ := List.mem_map.1 this
  exact ⟨p, hp, e'.symm⟩
theorem kv_all : ∀ {L : List MapEntry} {l : List (Int × Int)}, L.map kvE = l.map kvI → ∀ {M : List MapEntry}, (∀ x ∈ M, x ∈ L) → ∃ m : List (Int × Int), M.map kvE = m.map kvI
  | L, l, h, [], _ => ⟨[], rfl⟩
  | L, l, h, x :: M, hM => by
    obtain ⟨m, hm⟩ := kv_all h (M := M) fun y hy => hM y (List.mem_cons_of_mem _ hy)
    obtain ⟨p, -, hp⟩ := kv_of h (hM x (List.mem_cons_self ..))
    exact ⟨p :: m, by simp [hm, hp]⟩
theorem perm_kv {l m : List (Int × Int)} (h : (l.map kvI).Perm (m.map kvI)) : l.Perm m := by
  have hg : ∀ l : List (Int × Int), (l.map kvI).map (fun v => match v with | (.int _ a, .int _ b) => (a, b) | _ => (0, 0)) = l := fun l => by
    rw [List.map_map]; simp [kvI, Function.comp_def]
  have := h.map (fun v : Value × Value => match v with | (.int _ a, .int _ b) => (a, b) | _ => ((0, 0) : Int × Int))
  rwa [hg, hg] at this
theorem run_it_next {P : Program} {w : World} (ty : TypeId) (r b : Nat) (l : List (Int × Int)) (hb : ItAt w r b l) : (l = [] ∧ (Instr.next (.pointer (some ⟨r, 0, none⟩)) false ty).run P w = .ok (.tuple #[.bool false]) w) ∨
    ∃ p l' w', l.Perm (p :: l') ∧ ItNow w' r b p l' ∧ w.grownBy w' (some r) ∧ (Instr.next (.pointer (some ⟨r, 0, none⟩)) false ty).run P w = .ok (.tuple #[.bool true, .int .i64 p.1, .int .i64 p.2]) w' := by
  obtain ⟨es, c, seen, h1, h2, h3, h4, h5⟩ := hb
  rcases run_next_at (P := P) w ty r b c c seen es c h1 h2 h3 (Nat.le_refl _) with ⟨g1, g2⟩ | ⟨e, he, w1, hw1, g⟩
  · have hl : l = [] := by
      have : (leftOf es seen).toList = [] := List.eq_nil_of_length_eq_zero (by simpa using g1)
      rw [this] at h5
      simpa using h5.symm
    exact .inl ⟨hl, g2⟩
  · obtain ⟨p, -, hp⟩ := kv_of h5 he
    have hes : e ∈ es.toList := by simp only [leftOf, Array.toList_filter, List.mem_filter] at he; exact he.1
    have hnl : ((leftOf es seen).toList.map (·.born)).Nodup := by
      simp only [leftOf, Array.toList_filter]
      exact h4.sublist (List.Sublist.map _ List.filter_sublist)
    have hper := perm_strike hnl he
    rw [← left_push] at hper
    obtain ⟨l', hl'⟩ := kv_all h5 (M := (leftOf es (seen.push e.born)).toList) fun y hy => hper.symm.mem_iff.1 (List.mem_cons_of_mem _ hy)
    have hpl : l.Perm (p :: l') := by
      have h6 := hper.map kvE
      rw [h5, List.map_cons, hl', hp] at h6
      exact perm_kv (m := p :: l') h6
    have hke : e.key = .int .i64 p.1 ∧ e.val = .int .i64 p.2 := by simpa [kvE, kvI] using hp
    rw [hke.1, hke.2] at g
    have hw1h : w1.heap = w.heap := by rcases hw1 with rfl | rfl <;> rfl
    have hrl := (Array.getElem?_eq_some_iff.1 h1).1
    have hrb : r ≠ b := fun e => by rw [e, h2] at h1; simp at h1
    have hoth : ∀ k, k ≠ r → (setBlock w1 r (.mapIter (some b) c (seen.push e.born) c)).heap[k]? = w.heap[k]? := fun k hk => by
      show (w1.heap.setIfInBounds r _)[k]? = _
      rw [hw1h, Array.getElem?_setIfInBounds, if_neg fun e => hk e.symm]
    refine .inr ⟨p, l', _, hpl, ⟨es, c, seen, e, ?_, (hoth b fun e => hrb e.symm).trans h2, h3, h4, hl', hes, hp⟩, ⟨?_, ?_, ?_, ?_, fun k _ hk => hoth k fun e => hk (by rw [e])⟩, g⟩
    · show (w1.heap.setIfInBounds r _)[r]? = _
      rw [hw1h]
      simp [hrl]
    · rcases hw1 with rfl | rfl <;> rfl
    · rcases hw1 with rfl | rfl <;> rfl
    · rcases hw1 with rfl | rfl <;> rfl
    · show w.heap.size ≤ (w1.heap.setIfInBounds r _).size
      rw [hw1h]; simp
theorem run_it_entry {P : Program} {w : World} (r b : Nat) (p : Int × Int) (l : List (Int × Int)) (hb : ItNow w r b p l) : (Instr.entry (.pointer (some ⟨r, 0, none⟩))).run P w = .ok (.tuple #[.int .i64 p.1, .int .i64 p.2]) w := by
  obtain ⟨es, c, seen, e, h1, h2, h3, h4, h5, h6, h7⟩ := hb
  have hrun := run_entry_at (P := P) w r b c seen es c e h1 h2 h6 h4
  have hke : e.key = .int .i64 p.1 ∧ e.val = .int .i64 p.2 := by simpa [kvE, kvI] using h7
  rw [hke.1, hke.2] at hrun
  exact hrun
end Go.Proofs.Ytcbijikalfodnaa.Maps
