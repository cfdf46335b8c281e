
/-
  term.rename of the program with (*prolix/term.seen).number, walked (printed by gen_ren.py).
-/
import Derived.Test.YtmlceamcpelklaaRenS
namespace Go.Proofs.Ytmlceamcpelklaa.Tms
open Go Go.RowKit Go.Proofs.Ytmlceamcpelklaa.Reg Go.Proofs.Ytmlceamcpelklaa.Rws
set_option linter.unusedVariables false

set_option maxHeartbeats 3200000 in
theorem ren_seen (V : Vis) (φ : Int → Int) (x0 : Value) (t : Tm) (v : Value) (P : Nat → Prop) (w : World) (hM : t.size ≤ 1000000000) (h : IsTm w P v t) (hP : ∀ b, P b → ¬ V.Mine [] w b) (hs : V.Sig [] w)
    (hcall : ∀ (D : List (Tm × Int)) (p : Tm × Int) (rest : List (Tm × Int)) (W : World), flatT t = D ++ p :: rest → p.1.k = 1 → V.Sig D W → Calls Try.prog 84 #[x0, .int .i64 p.1.n] W fun e w' => e = .returned (.int .i64 (φ p.1.n)) ∧ V.Sig (D ++ [p]) w' ∧ Keeps W w' (V.Mine D W) ∧ ∀ b, V.Mine (D ++ [p]) w' b → V.Mine D W b ∨ W.heap.size ≤ b)
    (hskip : ∀ (D : List (Tm × Int)) (p : Tm × Int) (W : World), p.1.k ≠ 1 → V.Sig D W → V.Sig (D ++ [p]) W ∧ ∀ b, V.Mine (D ++ [p]) W b → V.Mine D W b) :
    Calls Try.prog 83 #[v, .func (.func 84) #[x0] #[]] w (RenPost V φ t w) := by
  have hl : IsTm w (Old V w) v t := h.lt.imp (fun b h => ⟨h.2, hP b h.1⟩) fun _ _ _ => rfl
  clear h hP
  have HCALL := Lib.hid hcall
  have HSKIP := Lib.hid hskip
  clear hcall hskip
  obtain ⟨a, c, rfl⟩ := hl.form
  have HST := Lib.hid (ren_start V φ t w a c hl hs)
  clear hl hs
  go_enter Try.func83, Try.ntmps83
  go_wp2
  go_loopg [5] t.size (fun k v5 wr => RnRel V φ t w k v5 wr)
  case atStart => exact HST.out
  case round =>
    obtain ⟨S, D, l, g, cap, n, rfl, hst, hI, hfl, hng, hk, hkt⟩ := hrel
    clear HST
    rcases nil_or_snoc l with rfl | ⟨l', x, rfl⟩
    · obtain rfl : n = 0 := hst.len.symm
      have hread := (rd_nil _ _ _ _ (Nat.le_refl _) hI.root).read
      have hD : flatT t = D := by simpa [flatS, flatL] using hfl
      have HI := Lib.hid hI
      have HD := Lib.hid hD
      obtain ⟨a', c', x0, x1, x2, x3, it, hlt⟩ := hread
      have IT := Lib.hid it
      have HRES := Lib.hid hI.res
      clear hI hD hfl it hst hng hk
      go_wp2_with (refine wpList_store_row rfl 27 (.tmp 4) (.tmp 76) rfl (w.heap.size + 1) #[.int .i64 (renT φ t).k, .int .i64 (renT φ t).n, .string (renT φ t).s, .slice a' (renT φ t).args.length c'] rfl rfl _ _ HRES.out size_term rfl (one4 _ _ _ _ _ _) ?_)
      have hz := setRow_heap wr (w.heap.size + 1) _ (#[.int .i64 (renT φ t).k, .int .i64 (renT φ t).n, .string (renT φ t).s, .slice a' (renT φ t).args.length c'] : Array Value) _ _ HRES.out
      exact bodyPost_ret (v := .agg #[.int .i64 (renT φ t).k, .int .i64 (renT φ t).n, .string (renT φ t).s, .slice a' (renT φ t).args.length c']) (results_cell_row Try.results83 _ _ (w.heap.size + 1) _ _ _ _ rfl hz Try.underlying27 rfl (by kernel_rfl)) rfl (ren_end HI.out HD.out IT.out)
    · have em : (l' ++ [x]).map ptrOf = l'.map ptrOf ++ [ptrOf x] := by simp
      obtain ⟨hn, hown⟩ := hst
      obtain ⟨m, rfl⟩ : ∃ m, n = m + 1 := ⟨l'.length, by rw [← hn]; simp⟩
      have hm : l'.length = m := by simpa using hn
      rw [em] at hown
      have hgl : w.heap.size + 2 ≤ g ∧ g < wr.heap.size := hown.lt g rfl
      obtain ⟨hown', hcell, hcap, -⟩ := owns_pop hown
      have hstk : Stack (w.heap.size + 2) g cap m l' wr := ⟨hm, hown'⟩
      obtain ⟨hSx, hox, ba, bc, x0, x1, x2, x3, hA⟩ := hI.items x (by simp)
      have hsum : sumSz l' + x.2.2.size ≤ gk := by have := sumSz_app l' [x]; simp only [sumSz] at this; omega
      have hkeys : ∀ y ∈ l', key y ≠ key x := fun y hy e => by
        have hk := hI.keys
        rw [List.map_append, List.map_singleton, List.nodup_append] at hk
        exact hk.2.2 _ (List.mem_map.2 ⟨y, hy, rfl⟩) _ (List.mem_singleton.2 rfl) e
      have hflx : flatT t = D ++ (x.2.2, 0) :: (flatL x.2.2.args ++ flatS l'.reverse) := by
        rw [hfl, List.reverse_append, List.reverse_singleton, List.singleton_append]
        show D ++ (flatT x.2.2 ++ _) = _
        rw [flatT_eq]
        simp [flatS]
      have hmid := hI.sub (l1 := l') (fun y hy => by simp [hy])
      obtain ⟨xb, xo, u⟩ := x
      dsimp only [key] at hcell hSx hox x0 x1 x2 x3 hA hsum hkeys hflx
      obtain ⟨hSB, hS1, -, cur, hcur⟩ := hI.rows xb hSx
      have hlt : xb < wr.heap.size := (Array.getElem?_eq_some_iff.1 hcur).1
      have hmb : m + 1 ≤ 1000000000 := by have := len_sumSz l'; have := size_pos u; omega
      have hxl : u.args.length ≤ 1000000000 := by have := len_le u.args; have : sizeL u.args + 1 = u.size := (by obtain ⟨k1, n1, s1, a1⟩ := u; simp [Tm.size, Tm.args]); omega
      have hgk : 0 < gk := by have := size_pos u; omega
      have HSUM := Lib.hid hsum
      have HFL := Lib.hid hflx
      have HKEY := Lib.hid hkeys
      have HSX := Lib.hid hSx
      have HNG0 := Lib.hid hng
      have HMID := Lib.hid hmid
      have HSTK := Lib.hid hstk
      have HCUR0 := Lib.hid hcur
      have HA0 := Lib.hid hA
      clear hI hown hown' em hn hm hstk hsum hkeys hflx hmid hSx hcur hA hfl hng hk
      by_cases hk1 : u.k = 1
      · have hq1 : (u.k == 1) = true := by simpa using hk1
        have hfz1 : wr.frozen? ⟨xb, xo + 1, none⟩ = false := frozen_of_row wr xb (xo + 1) cur _ HCUR0.out
        go_wp2_with fail
        refine (HCALL.out D (u, 0) _ _ HFL.out hk1 HMID.out.sig).mono ?_
        rintro e2 w2 ⟨rfl, hs2, hk2, hm2⟩
        have hI2 := HMID.out.called hs2 hk2 hm2
        have hb2 : w2.heap[xb]? = wr.heap[xb]? := hk2.block xb hlt (HMID.out.rows xb HSX.out).2.2.1
        have hcur2 : w2.heap[xb]? = some (.cells cur 27 (0, 0)) := hb2.trans HCUR0.out
        have hc2 : ∀ o, w2.cell? ⟨xb, o, none⟩ = wr.cell? ⟨xb, o, none⟩ := fun o => World.cell?_of_block hb2
        replace x0 := (hc2 _).trans x0
        replace x1 := (hc2 _).trans x1
        replace x2 := (hc2 _).trans x2
        replace x3 := (hc2 _).trans x3
        have hng2 : ¬ V.Mine (D ++ [(u, 0)]) w2 g := fun h => by
          rcases hm2 g h with h | h
          · exact HNG0.out h
          · omega
        have hst2 := HSTK.out.same (hk2.block g hgl.2 HNG0.out)
        have hA2 : ArgsFrom w2 (Old V w) ba 0 u.args := ArgsFrom.imp (fun _ h => h) (fun b hb hl => hk2.block b hl (HMID.out.old hb)) _ _ _ HA0.out
        replace hfz1 : w2.frozen? ⟨xb, xo + 1, none⟩ = false := frozen_of_row w2 xb (xo + 1) cur _ hcur2
        have hI3 := hI2.write (q := 1) (b := xb) (o := xo) (u := u) (by simp) HKEY.out (by omega) (.int .i64 (φ u.n))
        have hst3 := hst2.other (b := xb) (q := xo + 1) ⟨cur, hcur2⟩ (.int .i64 (φ u.n))
        have hblk3 : ∀ b, b ≠ xb → (w2.setCell ⟨xb, xo + 1, none⟩ (.int .i64 (φ u.n))).heap[b]? = w2.heap[b]? := fun b hne => Below.heap_setCell _ _ _ _ hne
        have hv3 := V.keep hI2.sig (W' := w2.setCell ⟨xb, xo + 1, none⟩ (.int .i64 (φ u.n))) (by simp [World.setCell]) fun b hb hm => hblk3 b fun e => (hI2.rows xb HSX.out).2.2.1 (by rw [← e]; exact hm)
        have hng3 : ¬ V.Mine (D ++ [(u, 0)]) (w2.setCell ⟨xb, xo + 1, none⟩ (.int .i64 (φ u.n))) g := fun h => hng2 (hv3.2 _ h)
        have hA3 : ArgsFrom (w2.setCell ⟨xb, xo + 1, none⟩ (.int .i64 (φ u.n))) (Old V w) ba 0 u.args := ArgsFrom.imp (fun _ h => h) (fun b hb hl => hblk3 b fun e => by have := hb.1; omega) _ _ _ hA2
        have hx1 : (w2.setCell ⟨xb, xo + 1, none⟩ (.int .i64 (φ u.n))).cell? ⟨xb, xo + 1, none⟩ = some (.int .i64 (if u.k = 1 then φ u.n else u.n)) := by rw [if_pos hk1]; exact cell_setCell_eq x1
        have hx0 : (w2.setCell ⟨xb, xo + 1, none⟩ (.int .i64 (φ u.n))).cell? ⟨xb, xo, none⟩ = some (.int .i64 u.k) := (cell_setCell_ne (by omega)).trans x0
        have hx2 : (w2.setCell ⟨xb, xo + 1, none⟩ (.int .i64 (φ u.n))).cell? ⟨xb, xo + 2, none⟩ = some (.string u.s) := (cell_setCell_ne (by omega)).trans x2
        have hx3 : (w2.setCell ⟨xb, xo + 1, none⟩ (.int .i64 (φ u.n))).cell? ⟨xb, xo + 3, none⟩ = some (.slice ba u.args.length bc) := (cell_setCell_ne (by omega)).trans x3
        have hcur3 : ∃ cur, (w2.setCell ⟨xb, xo + 1, none⟩ (.int .i64 (φ u.n))).heap[xb]? = some (.cells cur 27 (0, 0)) := ⟨_, heap_setCell_same w2 xb (xo + 1) cur _ _ hcur2⟩
        have HI := Lib.hid hI3
        have HST := Lib.hid hst3
        have HNG := Lib.hid hng3
        have HA := Lib.hid hA3
        have HX0 := Lib.hid hx0
        have HX1 := Lib.hid hx1
        have HX2 := Lib.hid hx2
        have HX3 := Lib.hid hx3
        have HCUR := Lib.hid hcur3
        have HLT := Lib.hid (show xb < (w2.setCell ⟨xb, xo + 1, none⟩ (.int .i64 (φ u.n))).heap.size by obtain ⟨cur, hc⟩ := hcur3; exact (Array.getElem?_eq_some_iff.1 hc).1)
        clear hs2 hk2 hm2 hI2 hb2 hcur2 hc2 hng2 hst2 hA2 hI3 hst3 hblk3 hv3 hng3 hA3 hx0 hx1 hx2 hx3 hcur3 x0 x2 x3 hcell HMID HSTK HCUR0 HA0 HNG0 hlt
        by_cases hz : u.args.length = 0
        · have hz0 := hz
          have hz1 : ((u.args.length : Int) == 0) = true := by rw [beq_iff_eq]; omega
          have x0 := HX0.out
          have x1w := HX1.out
          have x2 := HX2.out
          have x3 := HX3.out
          have hlt := HLT.out
          have hfz : (w2.setCell ⟨xb, xo + 1, none⟩ (.int .i64 (φ u.n))).frozen? ⟨xb, xo + 3, none⟩ = false := by obtain ⟨cur, hc⟩ := HCUR.out; exact frozen_of_row _ xb (xo + 3) cur _ hc
          rw [hz0] at x3
          have hturn := HI.out.write (q := 3) (b := xb) (o := xo) (u := u) (by simp) HKEY.out (by omega) (.slice none 0 0)
          have hw0 : ((w2.setCell ⟨xb, xo + 1, none⟩ (.int .i64 (φ u.n))).setCell ⟨xb, xo + 3, none⟩ (.slice none 0 0)).cell? ⟨xb, xo, none⟩ = some (.int .i64 u.k) := (cell_setCell_ne (by omega)).trans x0
          have hw1 : ((w2.setCell ⟨xb, xo + 1, none⟩ (.int .i64 (φ u.n))).setCell ⟨xb, xo + 3, none⟩ (.slice none 0 0)).cell? ⟨xb, xo + 1, none⟩ = some (.int .i64 (if u.k = 1 then φ u.n else u.n)) := (cell_setCell_ne (by omega)).trans HX1.out
          have hw2 : ((w2.setCell ⟨xb, xo + 1, none⟩ (.int .i64 (φ u.n))).setCell ⟨xb, xo + 3, none⟩ (.slice none 0 0)).cell? ⟨xb, xo + 2, none⟩ = some (.string u.s) := (cell_setCell_ne (by omega)).trans x2
          have hw3 : ((w2.setCell ⟨xb, xo + 1, none⟩ (.int .i64 (φ u.n))).setCell ⟨xb, xo + 3, none⟩ (.slice none 0 0)).cell? ⟨xb, xo + 3, none⟩ = some (.slice none u.args.length 0) := by rw [hz0]; exact cell_setCell_eq x3
          have hgS : ¬ S ((w2.setCell ⟨xb, xo + 1, none⟩ (.int .i64 (φ u.n))).heap.size) := fun h => by have := HI.out.lt h; omega
          have hclose := hturn.close (g := (w2.setCell ⟨xb, xo + 1, none⟩ (.int .i64 (φ u.n))).heap.size) hw0 hw1 hw2 hw3 (fun hn => absurd (List.eq_nil_of_length_eq_zero hz0) hn) hgS (fun i hi => absurd hi (by omega))
          have hst4 := HST.out.other (b := xb) (q := xo + 3) HCUR.out (.slice none 0 0)
          have hv4 := V.keep HI.out.sig (W' := (w2.setCell ⟨xb, xo + 1, none⟩ (.int .i64 (φ u.n))).setCell ⟨xb, xo + 3, none⟩ (.slice none 0 0)) (by simp [World.setCell]) fun b hb hm => Below.heap_setCell _ _ _ _ fun e => absurd hm (by rw [show b = xb from e]; exact (HI.out.rows xb HSX.out).2.2.1)
          have hng4 : ¬ V.Mine (D ++ [(u, 0)]) ((w2.setCell ⟨xb, xo + 1, none⟩ (.int .i64 (φ u.n))).setCell ⟨xb, xo + 3, none⟩ (.slice none 0 0)) g := fun hm => HNG.out (hv4.2 _ hm)
          have hk : kids (w2.setCell ⟨xb, xo + 1, none⟩ (.int .i64 (φ u.n))).heap.size 0 u.args = [] := by rw [List.eq_nil_of_length_eq_zero hz0]; rfl
          rw [hk, List.append_nil] at hclose
          have HC := Lib.hid hclose
          have HST4 := Lib.hid hst4
          have HNG4 := Lib.hid hng4
          clear hturn hw0 hw1 hw2 hw3 hgS hclose hst4 hv4 hng4 hk
          go_wp2
          go_roundg (gk - 1)
          case measure => omega
          case rel => exact ⟨_, D ++ [(u, 0)], l', g, cap, m, rfl, HST4.out, HC.out, by rw [HFL.out, List.eq_nil_of_length_eq_zero hz0]; simp [flatL], HNG4.out, by have := HSUM.out; have := size_pos u; omega, by omega⟩
        · have hz' : ((u.args.length : Int) == 0) = false := by rw [beq_eq_false_iff_ne]; omega
          have x3w := HX3.out
          go_wp2_with (first
            | (at_make
               clear x3w
               obtain ⟨w3, hw3⟩ : ∃ w3, w3 = w2.setCell ⟨xb, xo + 1, none⟩ (.int .i64 (φ u.n)) := ⟨_, rfl⟩
               rw [← hw3] at HI HST HNG HA HX0 HX1 HX2 HX3 HCUR HLT ⊢
               clear hw3 x1 hfz1
               have x0 := HX0.out
               have x1 := HX1.out
               have x2 := HX2.out
               have x3 := HX3.out
               have hlt := HLT.out
               have hfz : w3.frozen? ⟨xb, xo + 3, none⟩ = false := by obtain ⟨cur, hc⟩ := HCUR.out; exact frozen_of_row _ xb (xo + 3) cur _ hc
               clear HX3 HLT
               obtain ⟨bb, oo, rfl⟩ : ∃ bb oo, ba = some ⟨bb, oo, none⟩ := by obtain ⟨b, o, e, -⟩ := argsFrom_at HA.out 0 (Nat.pos_of_ne_zero hz); exact ⟨b, o, e⟩
               obtain ⟨i0, hi, hz0, hz1, hz2⟩ := info_parts info_term
               have hat : ∀ i (hi : i < u.args.length), Old V w bb ∧ TmAt w3 (Old V w) bb (oo + i * 4) u.args[i] := fun i hi => by
                 obtain ⟨b, o, e, hp, ht⟩ := argsFrom_at HA.out i hi
                 simp only [Option.some.injEq, Addr.mk.injEq, and_true] at e
                 obtain ⟨rfl, rfl⟩ := e
                 exact ⟨hp, ht⟩
               have HAT := Lib.hid hat
               clear hat
               refine wpList_make_full _ rfl (.tmp 51) (.tmp 51) 25 rfl w3.heap.size 27 i0 _ 4 Try.underlying25 hi hz0 hz1 .i64 .i64 _ _ u.args.length rfl rfl rfl rfl (by rw [hz2]; omega) (by unfold maxLen; omega) (Nat.le_refl _) ?_
               intro wA hown1 hgrow1
               obtain ⟨row, hrow, hrs⟩ := own_row hown1
               have hb1 : Below w3.heap.size w3 wA := (Below.refl _ _).grown hgrow1 (Nat.le_refl _) (by simp)
               have hl1 : w3.heap.size < wA.heap.size := (Array.getElem?_eq_some_iff.1 hrow).1
               have X3 := Lib.hid x3
               have x3 : wA.cell? ⟨xb, xo + 3, none⟩ = some (.slice (some ⟨bb, oo, none⟩) u.args.length bc) := (hb1.cell (p := ⟨xb, xo + 3, none⟩) hlt).trans x3
               have HAT1 : Hid (∀ i (hi : i < u.args.length), TmAt wA (Old V w) bb (oo + i * 4) u.args[i]) := Lib.hid fun i hi => (HAT.out i hi).2.imp (fun _ h => h) (fun b _ h => hb1.block b h) _ _ _ (HAT.out i hi).1
               obtain ⟨cs, hcl, hcc, hc1⟩ := row_cells HAT1.out
               have HROW := Lib.hid hrow
               have HRS := Lib.hid hrs
               have HB1 := Lib.hid hb1
               have HCL := Lib.hid hcl
               have HCC := Lib.hid hcc
               have HC1 := Lib.hid hc1
               clear hrow hrs hb1 hown1 hgrow1 hcl hcc hc1)
            | (with_reducible show wpList _ _ _ (⟨some 58, _, _, _, _, _⟩ :: _) _ _; go_loud (refine wpList_copy_all (o := ⟨some 58, _, _, _, _, _⟩) rfl (.tmp 53) (.tmp 57) 25 25 rfl 27 4 u.args.length w3.heap.size _ _ ⟨bb, oo, none⟩ Try.underlying25 size_term rfl rfl _ _ cs HROW.out HCL.out HRS.out (fun j v h => by rw [Addr.add_lit]; exact HCC.out j v h) HC1.out ?_)
               have hg2 := setRow_heap wA w3.heap.size _ cs.toArray _ _ HROW.out
               have hb2 : Below w3.heap.size w3 (wA.setRow w3.heap.size cs.toArray) := below_setRow HB1.out (Nat.le_refl _) _
               have HAT2 := Lib.hid (copied (P' := Old V w) HAT1.out HCL.out HCC.out hg2 (fun b h => h) (fun b h hb => setRow_other _ _ _ _ (by have := h.1; have := HI.out.keeps.size; omega)))
               have hI2 := HI.out.keep (Keeps.of hb2 (M := fun _ => False)) fun _ _ hm => hm.elim
               have hst2 := HST.out.keep hb2
               have hv2 := V.below HI.out.sig hb2
               have hng2 : ¬ V.Mine (D ++ [(u, 0)]) (wA.setRow w3.heap.size cs.toArray) g := fun hm => HNG.out (hv2.2 _ hm)
               have hn2 : ¬ V.Mine (D ++ [(u, 0)]) (wA.setRow w3.heap.size cs.toArray) w3.heap.size := fun hm => by have := V.low HI.out.sig (hv2.2 _ hm); omega
               have hgS : ¬ S w3.heap.size := fun h => by have := HI.out.lt h; omega
               have hcur2 : ∃ cur, (wA.setRow w3.heap.size cs.toArray).heap[xb]? = some (.cells cur 27 (0, 0)) := by obtain ⟨cur, hc⟩ := HCUR.out; exact ⟨cur, (hb2.block _ hlt).trans hc⟩
               have x32 : (wA.setRow w3.heap.size cs.toArray).cell? ⟨xb, xo + 3, none⟩ = some (.slice (some ⟨bb, oo, none⟩) u.args.length bc) := (hb2.cell (p := ⟨xb, xo + 3, none⟩) hlt).trans X3.out
               have y0 : (wA.setRow w3.heap.size cs.toArray).cell? ⟨xb, xo, none⟩ = some (.int .i64 u.k) := (hb2.cell (p := ⟨xb, xo, none⟩) hlt).trans HX0.out
               have y1 : (wA.setRow w3.heap.size cs.toArray).cell? ⟨xb, xo + 1, none⟩ = some (.int .i64 (if u.k = 1 then φ u.n else u.n)) := (hb2.cell (p := ⟨xb, xo + 1, none⟩) hlt).trans HX1.out
               have y2 : (wA.setRow w3.heap.size cs.toArray).cell? ⟨xb, xo + 2, none⟩ = some (.string u.s) := (hb2.cell (p := ⟨xb, xo + 2, none⟩) hlt).trans HX2.out
               have hfz2 : (wA.setRow w3.heap.size cs.toArray).frozen? ⟨xb, xo + 3, none⟩ = false := by obtain ⟨cur, hc⟩ := hcur2; exact frozen_of_row _ xb (xo + 3) cur _ hc
               have hsz2 : w3.heap.size + 1 ≤ (wA.setRow w3.heap.size cs.toArray).heap.size := by simp; omega
               clear x3 hl1
               generalize wA.setRow w3.heap.size cs.toArray = wB at *
               have HI2 := Lib.hid hI2
               have HST2 := Lib.hid hst2
               have HCUR2 := Lib.hid hcur2
               have HG2 := Lib.hid hg2
               have HN2 := Lib.hid hn2
               have HNG2 := Lib.hid hng2
               have HGS := Lib.hid hgS
               have Y0 := Lib.hid y0
               have Y1 := Lib.hid y1
               have Y2 := Lib.hid y2
               have HV2 := Lib.hid hv2.1
               clear hI2 hst2 hcur2 hg2 hb2 hn2 hng2 hgS y0 y1 y2 hv2 hfz x0 x1 x2))
          have hI3 := HI2.out.write (q := 3) (b := xb) (o := xo) (u := u) (by simp) HKEY.out (by omega) (.slice (some ⟨w3.heap.size, 0, none⟩) u.args.length u.args.length)
          have hxg : xb ≠ w3.heap.size := by omega
          have hst3 := HST2.out.other (b := xb) (q := xo + 3) HCUR2.out (.slice (some ⟨w3.heap.size, 0, none⟩) u.args.length u.args.length)
          have hblk3 : ∀ b, b ≠ xb → (wB.setCell ⟨xb, xo + 3, none⟩ (.slice (some ⟨w3.heap.size, 0, none⟩) u.args.length u.args.length)).heap[b]? = wB.heap[b]? := fun b hne => Below.heap_setCell _ _ _ _ hne
          have hv3 := V.keep HV2.out (W' := wB.setCell ⟨xb, xo + 3, none⟩ (.slice (some ⟨w3.heap.size, 0, none⟩) u.args.length u.args.length)) (by simp [World.setCell]) fun b hb hm => hblk3 b fun e => (HI2.out.rows xb HSX.out).2.2.1 (by rw [← e]; exact hm)
          have hsz3 : w3.heap.size + 1 ≤ (wB.setCell ⟨xb, xo + 3, none⟩ (.slice (some ⟨w3.heap.size, 0, none⟩) u.args.length u.args.length)).heap.size := by simp [World.setCell]; omega
          have hlow : w.heap.size + 2 ≤ w3.heap.size := by have h1 := (Array.getElem?_eq_some_iff.1 HI.out.res).1; omega
          have hclose := hI3.close (g := w3.heap.size) (a := some ⟨w3.heap.size, 0, none⟩) (c := u.args.length) ((cell_setCell_ne (by omega)).trans Y0.out) ((cell_setCell_ne (by omega)).trans Y1.out) ((cell_setCell_ne (by omega)).trans Y2.out) (cell_setCell_eq x32)
            (fun _ => ⟨rfl, hlow, fun hm => HN2.out (hv3.2 _ hm), _, (hblk3 _ (fun e => hxg e.symm)).trans HG2.out⟩) HGS.out (fun i hi => by
              obtain ⟨aa, cc, z0, z1, z2, z3, z4, z5⟩ := (HAT2.out i hi).read
              have hcx : ∀ o v, wB.cell? ⟨w3.heap.size, o, none⟩ = some v → (wB.setCell ⟨xb, xo + 3, none⟩ (.slice (some ⟨w3.heap.size, 0, none⟩) u.args.length u.args.length)).cell? ⟨w3.heap.size, o, none⟩ = some v := fun o v h => (cell_setCell_ne (fun e => hxg e.1.symm)).trans h
              obtain ⟨a', c', e', h'⟩ := z4
              simp at e'
              obtain ⟨rfl, rfl⟩ := e'
              exact ⟨aa, cc, hcx _ _ z0, hcx _ _ z1, hcx _ _ z2, hcx _ _ z3, ArgsFrom.imp (fun _ h => h) (fun b hb _ => hblk3 b fun e => by have := hb.1; have := (HI2.out.rows xb HSX.out).1; omega) _ _ _ h'⟩)
          have hin3 : RnIn V φ t w (fun b => S b ∨ (u.args ≠ [] ∧ b = w3.heap.size)) (D ++ [(u, 0)]) l' u.args w3.heap.size (.slice (some ⟨g, 0, none⟩) m cap) (.int .i64 ((u.args.length : Int) - 1)) (wB.setCell ⟨xb, xo + 3, none⟩ (.slice (some ⟨w3.heap.size, 0, none⟩) u.args.length u.args.length)) :=
            ⟨u.args.length, g, cap, m, Nat.le_refl _, rfl, rfl, by rw [List.drop_of_length_le (by rw [kids_len]; exact Nat.le_refl _)]; simpa using hst3, hclose, fun hm => HNG2.out (hv3.2 _ hm)⟩
          have HIN := Lib.hid hin3
          clear hI3 hst3 hblk3 hv3 hclose hin3 x32 hfz2 hz X3 hxg
          generalize wB.setCell ⟨xb, xo + 3, none⟩ (.slice (some ⟨w3.heap.size, 0, none⟩) u.args.length u.args.length) = wC at *
          clear HAT HAT1 HROW HRS HB1 HCL HCC HC1 HAT2 HI2 HST2 HCUR2 HG2 HN2 HNG2 HGS Y0 Y1 Y2 HV2 HI HST HNG HA HX0 HX1 HX2 hi hz0 hz1 hz2
          generalize hg2e : w3.heap.size = g2 at *
          have HG2E := Lib.hid hg2e
          clear hg2e
          go_loopw [5, 8] (fun v5 v8 w4 => RnIn V φ t w (fun b => S b ∨ (u.args ≠ [] ∧ b = g2)) (D ++ [(u, 0)]) l' u.args g2 v5 v8 w4) (fun _ c _ => (intOf c + 1).toNat)
          case atStart => exact HIN.out
          case round =>
            obtain ⟨q, g4, cp4, n4, hq, rfl, rfl, hst4, hI4, hng4⟩ := hrel
            clear HIN
            have HST4 := Lib.hid hst4
            have HI4 := Lib.hid hI4
            have HNG4 := Lib.hid hng4
            clear hst4 hI4 hng4
            rcases q with _ | r
            · go_wp2
              go_roundg (gk - 1)
              case measure => omega
              case rel =>
                have hs := HST4.out
                rw [List.drop_zero] at hs
                have hp : (l' ++ kids g2 0 u.args).Perm (l' ++ (kids g2 0 u.args).reverse) := List.Perm.append_left _ (List.reverse_perm _).symm
                refine ⟨_, D ++ [(u, 0)], l' ++ (kids g2 0 u.args).reverse, g4, cp4, n4, rfl, hs, HI4.out.perm hp (fun x hx => hp.mem_iff.2 hx), ?_, HNG4.out, ?_, by omega⟩
                · rw [HFL.out, List.reverse_append, List.reverse_reverse, flatS_app, flatS_kids]
                  simp
                · rw [sumSz_app, sumSz_rev, sumSz_kids]
                  have h1 := HSUM.out
                  have h2 : sizeL u.args + 1 = u.size := by obtain ⟨k1, n1, s1, a1⟩ := u; simp [Tm.size, Tm.args]
                  omega
            · have e8 : (((r + 1 : Nat) : Int) - 1) = r := by omega
              rw [e8]
              clear e8
              have hri : (r : Int) < (u.args.length : Int) := by omega
              have hnn : n4 ≤ 1000000000 := by
                have h0 := HST4.out.len
                have h1 := len_sumSz l'
                have h2 := len_le u.args
                have h3 := HSUM.out
                have h4 : t.size ≤ 1000000000 := hM
                have h5 : sizeL u.args + 1 = u.size := by obtain ⟨k1, n1, s1, a1⟩ := u; simp [Tm.size, Tm.args]
                simp [kids_len] at h0
                omega
              obtain ⟨i1, hi1, hw0, hw1, hw2⟩ := info_parts info_ptr
              have hbase : w.heap.size + 2 ≤ wr.heap.size := by have h1 := (Array.getElem?_eq_some_iff.1 HI4.out.res).1; omega
              go_wp2_with (
                (with_reducible show wpList _ _ _ (⟨some 75, _, _, _, _, _⟩ :: _) _ _
                 have hba : Below wr.heap.size wr (wr.alloc (.cells #[.pointer (some ⟨g2, r * 4, none⟩)] 155 (0, 0))) := (Below.refl _ _).alloc (Nat.le_refl _) _
                 have hsz : (wr.alloc (.cells #[.pointer (some ⟨g2, r * 4, none⟩)] 155 (0, 0))).heap.size = wr.heap.size + 1 := by simp
                 refine Push.wpList_push rfl (.tmp 70) (.tmp 74) _ rfl (w.heap.size + 2) 155 i1 (.pointer none) 1 8 Try.underlying156 hi1 hw0 hw1 hw2 rfl (by decide) _ n4 _ rfl (HST4.out.keep hba).owns ⟨wr.heap.size, 0, none⟩ 1 [.pointer (some ⟨g2, r * 4, none⟩)] rfl rfl (one_news wr _ _) (by simp [Value.oneCell']) (by unfold maxLen; omega) (by omega) (by omega) ?_
                 intro v5 w5 hown5 hgr5 hv5
                 obtain ⟨g5, cp5, e5, hfin⟩ : ∃ g5 cp5, v5 = .slice (some ⟨g5, 0, none⟩) (n4 + 1) cp5 ∧ RnIn V φ t w (fun b => S b ∨ (u.args ≠ [] ∧ b = g2)) (D ++ [(u, 0)]) l' u.args g2 v5 (.int .i64 ((r : Int) - 1)) w5 := ren_push HST4.out HI4.out HNG4.out hq hown5 hgr5 hv5
                 subst e5
                 have HFIN := Lib.hid hfin
                 clear hfin hown5 hgr5 hv5 hba hsz))
              go_roundw
              case rel => exact HFIN.out
              case measure => simp [intOf]
      · have hq1 : (u.k == 1) = false := by simpa using hk1
        have HI := Lib.hid (HMID.out.skipped (HSKIP.out D (u, 0) wr hk1 HMID.out.sig))
        have HST := Lib.hid HSTK.out
        have HNG : Hid (¬ V.Mine (D ++ [(u, 0)]) wr g) := Lib.hid fun h => HNG0.out ((HSKIP.out D (u, 0) wr hk1 HMID.out.sig).2 _ h)
        have HA := Lib.hid HA0.out
        have HX0 := Lib.hid x0
        have HX1 : Hid (wr.cell? ⟨xb, xo + 1, none⟩ = some (.int .i64 (if u.k = 1 then φ u.n else u.n))) := Lib.hid (by rw [if_neg hk1]; exact x1)
        have HX2 := Lib.hid x2
        have HCUR : Hid (∃ cur, wr.heap[xb]? = some (.cells cur 27 (0, 0))) := Lib.hid ⟨cur, HCUR0.out⟩
        have hfz : wr.frozen? ⟨xb, xo + 3, none⟩ = false := frozen_of_row wr xb (xo + 3) cur _ HCUR0.out
        clear HMID HSTK HCUR0 HA0 HNG0
        by_cases hz : u.args.length = 0
        · have hz0 := hz
          have hz1 : ((u.args.length : Int) == 0) = true := by rw [beq_iff_eq]; omega
          rw [hz0] at x3
          have hturn := HI.out.write (q := 3) (b := xb) (o := xo) (u := u) (by simp) HKEY.out (by omega) (.slice none 0 0)
          have hw0 : (wr.setCell ⟨xb, xo + 3, none⟩ (.slice none 0 0)).cell? ⟨xb, xo, none⟩ = some (.int .i64 u.k) := (cell_setCell_ne (by omega)).trans x0
          have hw1 : (wr.setCell ⟨xb, xo + 3, none⟩ (.slice none 0 0)).cell? ⟨xb, xo + 1, none⟩ = some (.int .i64 (if u.k = 1 then φ u.n else u.n)) := (cell_setCell_ne (by omega)).trans HX1.out
          have hw2 : (wr.setCell ⟨xb, xo + 3, none⟩ (.slice none 0 0)).cell? ⟨xb, xo + 2, none⟩ = some (.string u.s) := (cell_setCell_ne (by omega)).trans x2
          have hw3 : (wr.setCell ⟨xb, xo + 3, none⟩ (.slice none 0 0)).cell? ⟨xb, xo + 3, none⟩ = some (.slice none u.args.length 0) := by rw [hz0]; exact cell_setCell_eq x3
          have hgS : ¬ S (wr.heap.size) := fun h => by have := HI.out.lt h; omega
          have hclose := hturn.close (g := wr.heap.size) hw0 hw1 hw2 hw3 (fun hn => absurd (List.eq_nil_of_length_eq_zero hz0) hn) hgS (fun i hi => absurd hi (by omega))
          have hst4 := HST.out.other (b := xb) (q := xo + 3) HCUR.out (.slice none 0 0)
          have hv4 := V.keep HI.out.sig (W' := wr.setCell ⟨xb, xo + 3, none⟩ (.slice none 0 0)) (by simp [World.setCell]) fun b hb hm => Below.heap_setCell _ _ _ _ fun e => absurd hm (by rw [show b = xb from e]; exact (HI.out.rows xb HSX.out).2.2.1)
          have hng4 : ¬ V.Mine (D ++ [(u, 0)]) (wr.setCell ⟨xb, xo + 3, none⟩ (.slice none 0 0)) g := fun hm => HNG.out (hv4.2 _ hm)
          have hk : kids wr.heap.size 0 u.args = [] := by rw [List.eq_nil_of_length_eq_zero hz0]; rfl
          rw [hk, List.append_nil] at hclose
          have HC := Lib.hid hclose
          have HST4 := Lib.hid hst4
          have HNG4 := Lib.hid hng4
          clear hturn hw0 hw1 hw2 hw3 hgS hclose hst4 hv4 hng4 hk
          go_wp2
          go_roundg (gk - 1)
          case measure => omega
          case rel => exact ⟨_, D ++ [(u, 0)], l', g, cap, m, rfl, HST4.out, HC.out, by rw [HFL.out, List.eq_nil_of_length_eq_zero hz0]; simp [flatL], HNG4.out, by have := HSUM.out; have := size_pos u; omega, by omega⟩
        · obtain ⟨bb, oo, rfl⟩ : ∃ bb oo, ba = some ⟨bb, oo, none⟩ := by obtain ⟨b, o, e, -⟩ := argsFrom_at HA.out 0 (Nat.pos_of_ne_zero hz); exact ⟨b, o, e⟩
          obtain ⟨i0, hi, hz0, hz1, hz2⟩ := info_parts info_term
          have hat : ∀ i (hi : i < u.args.length), Old V w bb ∧ TmAt wr (Old V w) bb (oo + i * 4) u.args[i] := fun i hi => by
            obtain ⟨b, o, e, hp, ht⟩ := argsFrom_at HA.out i hi
            simp only [Option.some.injEq, Addr.mk.injEq, and_true] at e
            obtain ⟨rfl, rfl⟩ := e
            exact ⟨hp, ht⟩
          have HAT := Lib.hid hat
          clear hat
          have hz' : ((u.args.length : Int) == 0) = false := by rw [beq_eq_false_iff_ne]; omega
          go_wp2_with (first
            | (at_make; refine wpList_make_full _ rfl (.tmp 51) (.tmp 51) 25 rfl wr.heap.size 27 i0 _ 4 Try.underlying25 hi hz0 hz1 .i64 .i64 _ _ u.args.length rfl rfl rfl rfl (by rw [hz2]; omega) (by unfold maxLen; omega) (Nat.le_refl _) ?_
               intro wA hown1 hgrow1
               obtain ⟨row, hrow, hrs⟩ := own_row hown1
               have hb1 : Below wr.heap.size wr wA := (Below.refl _ _).grown hgrow1 (Nat.le_refl _) (by simp)
               have hl1 : wr.heap.size < wA.heap.size := (Array.getElem?_eq_some_iff.1 hrow).1
               have X3 := Lib.hid x3
               have x3 : wA.cell? ⟨xb, xo + 3, none⟩ = some (.slice (some ⟨bb, oo, none⟩) u.args.length bc) := (hb1.cell (p := ⟨xb, xo + 3, none⟩) hlt).trans x3
               have HAT1 : Hid (∀ i (hi : i < u.args.length), TmAt wA (Old V w) bb (oo + i * 4) u.args[i]) := Lib.hid fun i hi => (HAT.out i hi).2.imp (fun _ h => h) (fun b _ h => hb1.block b h) _ _ _ (HAT.out i hi).1
               obtain ⟨cs, hcl, hcc, hc1⟩ := row_cells HAT1.out
               have HROW := Lib.hid hrow
               have HRS := Lib.hid hrs
               have HB1 := Lib.hid hb1
               have HCL := Lib.hid hcl
               have HCC := Lib.hid hcc
               have HC1 := Lib.hid hc1
               clear hrow hrs hb1 hown1 hgrow1 hcl hcc hc1)
            | (with_reducible show wpList _ _ _ (⟨some 58, _, _, _, _, _⟩ :: _) _ _; go_loud (refine wpList_copy_all (o := ⟨some 58, _, _, _, _, _⟩) rfl (.tmp 53) (.tmp 57) 25 25 rfl 27 4 u.args.length wr.heap.size _ _ ⟨bb, oo, none⟩ Try.underlying25 size_term rfl rfl _ _ cs HROW.out HCL.out HRS.out (fun j v h => by rw [Addr.add_lit]; exact HCC.out j v h) HC1.out ?_)
               have hg2 := setRow_heap wA wr.heap.size _ cs.toArray _ _ HROW.out
               have hb2 : Below wr.heap.size wr (wA.setRow wr.heap.size cs.toArray) := below_setRow HB1.out (Nat.le_refl _) _
               have HAT2 := Lib.hid (copied (P' := Old V w) HAT1.out HCL.out HCC.out hg2 (fun b h => h) (fun b h hb => setRow_other _ _ _ _ (by have := h.1; have := HI.out.keeps.size; omega)))
               have hI2 := HI.out.keep (Keeps.of hb2 (M := fun _ => False)) fun _ _ hm => hm.elim
               have hst2 := HST.out.keep hb2
               have hv2 := V.below HI.out.sig hb2
               have hng2 : ¬ V.Mine (D ++ [(u, 0)]) (wA.setRow wr.heap.size cs.toArray) g := fun hm => HNG.out (hv2.2 _ hm)
               have hn2 : ¬ V.Mine (D ++ [(u, 0)]) (wA.setRow wr.heap.size cs.toArray) wr.heap.size := fun hm => by have := V.low HI.out.sig (hv2.2 _ hm); omega
               have hgS : ¬ S wr.heap.size := fun h => by have := HI.out.lt h; omega
               have hcur2 : ∃ cur, (wA.setRow wr.heap.size cs.toArray).heap[xb]? = some (.cells cur 27 (0, 0)) := by obtain ⟨cur, hc⟩ := HCUR.out; exact ⟨cur, (hb2.block _ hlt).trans hc⟩
               have x32 : (wA.setRow wr.heap.size cs.toArray).cell? ⟨xb, xo + 3, none⟩ = some (.slice (some ⟨bb, oo, none⟩) u.args.length bc) := (hb2.cell (p := ⟨xb, xo + 3, none⟩) hlt).trans X3.out
               have y0 : (wA.setRow wr.heap.size cs.toArray).cell? ⟨xb, xo, none⟩ = some (.int .i64 u.k) := (hb2.cell (p := ⟨xb, xo, none⟩) hlt).trans HX0.out
               have y1 : (wA.setRow wr.heap.size cs.toArray).cell? ⟨xb, xo + 1, none⟩ = some (.int .i64 (if u.k = 1 then φ u.n else u.n)) := (hb2.cell (p := ⟨xb, xo + 1, none⟩) hlt).trans HX1.out
               have y2 : (wA.setRow wr.heap.size cs.toArray).cell? ⟨xb, xo + 2, none⟩ = some (.string u.s) := (hb2.cell (p := ⟨xb, xo + 2, none⟩) hlt).trans HX2.out
               have hfz2 : (wA.setRow wr.heap.size cs.toArray).frozen? ⟨xb, xo + 3, none⟩ = false := by obtain ⟨cur, hc⟩ := hcur2; exact frozen_of_row _ xb (xo + 3) cur _ hc
               have hsz2 : wr.heap.size + 1 ≤ (wA.setRow wr.heap.size cs.toArray).heap.size := by simp; omega
               clear x3 hl1
               generalize wA.setRow wr.heap.size cs.toArray = wB at *
               have HI2 := Lib.hid hI2
               have HST2 := Lib.hid hst2
               have HCUR2 := Lib.hid hcur2
               have HG2 := Lib.hid hg2
               have HN2 := Lib.hid hn2
               have HNG2 := Lib.hid hng2
               have HGS := Lib.hid hgS
               have Y0 := Lib.hid y0
               have Y1 := Lib.hid y1
               have Y2 := Lib.hid y2
               have HV2 := Lib.hid hv2.1
               clear hI2 hst2 hcur2 hg2 hb2 hn2 hng2 hgS y0 y1 y2 hv2 hfz x0 x1 x2))
          have hI3 := HI2.out.write (q := 3) (b := xb) (o := xo) (u := u) (by simp) HKEY.out (by omega) (.slice (some ⟨wr.heap.size, 0, none⟩) u.args.length u.args.length)
          have hxg : xb ≠ wr.heap.size := by omega
          have hst3 := HST2.out.other (b := xb) (q := xo + 3) HCUR2.out (.slice (some ⟨wr.heap.size, 0, none⟩) u.args.length u.args.length)
          have hblk3 : ∀ b, b ≠ xb → (wB.setCell ⟨xb, xo + 3, none⟩ (.slice (some ⟨wr.heap.size, 0, none⟩) u.args.length u.args.length)).heap[b]? = wB.heap[b]? := fun b hne => Below.heap_setCell _ _ _ _ hne
          have hv3 := V.keep HV2.out (W' := wB.setCell ⟨xb, xo + 3, none⟩ (.slice (some ⟨wr.heap.size, 0, none⟩) u.args.length u.args.length)) (by simp [World.setCell]) fun b hb hm => hblk3 b fun e => (HI2.out.rows xb HSX.out).2.2.1 (by rw [← e]; exact hm)
          have hsz3 : wr.heap.size + 1 ≤ (wB.setCell ⟨xb, xo + 3, none⟩ (.slice (some ⟨wr.heap.size, 0, none⟩) u.args.length u.args.length)).heap.size := by simp [World.setCell]; omega
          have hlow : w.heap.size + 2 ≤ wr.heap.size := by have h1 := (Array.getElem?_eq_some_iff.1 HI.out.res).1; omega
          have hclose := hI3.close (g := wr.heap.size) (a := some ⟨wr.heap.size, 0, none⟩) (c := u.args.length) ((cell_setCell_ne (by omega)).trans Y0.out) ((cell_setCell_ne (by omega)).trans Y1.out) ((cell_setCell_ne (by omega)).trans Y2.out) (cell_setCell_eq x32)
            (fun _ => ⟨rfl, hlow, fun hm => HN2.out (hv3.2 _ hm), _, (hblk3 _ (fun e => hxg e.symm)).trans HG2.out⟩) HGS.out (fun i hi => by
              obtain ⟨aa, cc, z0, z1, z2, z3, z4, z5⟩ := (HAT2.out i hi).read
              have hcx : ∀ o v, wB.cell? ⟨wr.heap.size, o, none⟩ = some v → (wB.setCell ⟨xb, xo + 3, none⟩ (.slice (some ⟨wr.heap.size, 0, none⟩) u.args.length u.args.length)).cell? ⟨wr.heap.size, o, none⟩ = some v := fun o v h => (cell_setCell_ne (fun e => hxg e.1.symm)).trans h
              obtain ⟨a', c', e', h'⟩ := z4
              simp at e'
              obtain ⟨rfl, rfl⟩ := e'
              exact ⟨aa, cc, hcx _ _ z0, hcx _ _ z1, hcx _ _ z2, hcx _ _ z3, ArgsFrom.imp (fun _ h => h) (fun b hb _ => hblk3 b fun e => by have := hb.1; have := (HI2.out.rows xb HSX.out).1; omega) _ _ _ h'⟩)
          have hin3 : RnIn V φ t w (fun b => S b ∨ (u.args ≠ [] ∧ b = wr.heap.size)) (D ++ [(u, 0)]) l' u.args wr.heap.size (.slice (some ⟨g, 0, none⟩) m cap) (.int .i64 ((u.args.length : Int) - 1)) (wB.setCell ⟨xb, xo + 3, none⟩ (.slice (some ⟨wr.heap.size, 0, none⟩) u.args.length u.args.length)) :=
            ⟨u.args.length, g, cap, m, Nat.le_refl _, rfl, rfl, by rw [List.drop_of_length_le (by rw [kids_len]; exact Nat.le_refl _)]; simpa using hst3, hclose, fun hm => HNG2.out (hv3.2 _ hm)⟩
          have HIN := Lib.hid hin3
          clear hI3 hst3 hblk3 hv3 hclose hin3 x32 hfz2 hz X3 hxg
          generalize wB.setCell ⟨xb, xo + 3, none⟩ (.slice (some ⟨wr.heap.size, 0, none⟩) u.args.length u.args.length) = wC at *
          clear HAT HAT1 HROW HRS HB1 HCL HCC HC1 HAT2 HI2 HST2 HCUR2 HG2 HN2 HNG2 HGS Y0 Y1 Y2 HV2 HI HST HNG HA HX0 HX1 HX2 hi hz0 hz1 hz2
          generalize hg2e : wr.heap.size = g2 at *
          have HG2E := Lib.hid hg2e
          clear hg2e
          go_loopw [5, 8] (fun v5 v8 w4 => RnIn V φ t w (fun b => S b ∨ (u.args ≠ [] ∧ b = g2)) (D ++ [(u, 0)]) l' u.args g2 v5 v8 w4) (fun _ c _ => (intOf c + 1).toNat)
          case atStart => exact HIN.out
          case round =>
            obtain ⟨q, g4, cp4, n4, hq, rfl, rfl, hst4, hI4, hng4⟩ := hrel
            clear HIN
            have HST4 := Lib.hid hst4
            have HI4 := Lib.hid hI4
            have HNG4 := Lib.hid hng4
            clear hst4 hI4 hng4
            rcases q with _ | r
            · go_wp2
              go_roundg (gk - 1)
              case measure => omega
              case rel =>
                have hs := HST4.out
                rw [List.drop_zero] at hs
                have hp : (l' ++ kids g2 0 u.args).Perm (l' ++ (kids g2 0 u.args).reverse) := List.Perm.append_left _ (List.reverse_perm _).symm
                refine ⟨_, D ++ [(u, 0)], l' ++ (kids g2 0 u.args).reverse, g4, cp4, n4, rfl, hs, HI4.out.perm hp (fun x hx => hp.mem_iff.2 hx), ?_, HNG4.out, ?_, by omega⟩
                · rw [HFL.out, List.reverse_append, List.reverse_reverse, flatS_app, flatS_kids]
                  simp
                · rw [sumSz_app, sumSz_rev, sumSz_kids]
                  have h1 := HSUM.out
                  have h2 : sizeL u.args + 1 = u.size := by obtain ⟨k1, n1, s1, a1⟩ := u; simp [Tm.size, Tm.args]
                  omega
            · have e8 : (((r + 1 : Nat) : Int) - 1) = r := by omega
              rw [e8]
              clear e8
              have hri : (r : Int) < (u.args.length : Int) := by omega
              have hnn : n4 ≤ 1000000000 := by
                have h0 := HST4.out.len
                have h1 := len_sumSz l'
                have h2 := len_le u.args
                have h3 := HSUM.out
                have h4 : t.size ≤ 1000000000 := hM
                have h5 : sizeL u.args + 1 = u.size := by obtain ⟨k1, n1, s1, a1⟩ := u; simp [Tm.size, Tm.args]
                simp [kids_len] at h0
                omega
              obtain ⟨i1, hi1, hw0, hw1, hw2⟩ := info_parts info_ptr
              have hbase : w.heap.size + 2 ≤ wr.heap.size := by have h1 := (Array.getElem?_eq_some_iff.1 HI4.out.res).1; omega
              go_wp2_with (
                (with_reducible show wpList _ _ _ (⟨some 75, _, _, _, _, _⟩ :: _) _ _
                 have hba : Below wr.heap.size wr (wr.alloc (.cells #[.pointer (some ⟨g2, r * 4, none⟩)] 155 (0, 0))) := (Below.refl _ _).alloc (Nat.le_refl _) _
                 have hsz : (wr.alloc (.cells #[.pointer (some ⟨g2, r * 4, none⟩)] 155 (0, 0))).heap.size = wr.heap.size + 1 := by simp
                 refine Push.wpList_push rfl (.tmp 70) (.tmp 74) _ rfl (w.heap.size + 2) 155 i1 (.pointer none) 1 8 Try.underlying156 hi1 hw0 hw1 hw2 rfl (by decide) _ n4 _ rfl (HST4.out.keep hba).owns ⟨wr.heap.size, 0, none⟩ 1 [.pointer (some ⟨g2, r * 4, none⟩)] rfl rfl (one_news wr _ _) (by simp [Value.oneCell']) (by unfold maxLen; omega) (by omega) (by omega) ?_
                 intro v5 w5 hown5 hgr5 hv5
                 obtain ⟨g5, cp5, e5, hfin⟩ : ∃ g5 cp5, v5 = .slice (some ⟨g5, 0, none⟩) (n4 + 1) cp5 ∧ RnIn V φ t w (fun b => S b ∨ (u.args ≠ [] ∧ b = g2)) (D ++ [(u, 0)]) l' u.args g2 v5 (.int .i64 ((r : Int) - 1)) w5 := ren_push HST4.out HI4.out HNG4.out hq hown5 hgr5 hv5
                 subst e5
                 have HFIN := Lib.hid hfin
                 clear hfin hown5 hgr5 hv5 hba hsz))
              go_roundw
              case rel => exact HFIN.out
              case measure => simp [intOf]
end Go.Proofs.Ytmlceamcpelklaa.Tms
