
/-
  fault.own walked over the program: what it returns reads as what it was given.
-/
import Derived.Deep.LoopGhost
import Derived.OwnWalk
import Derived.Laws.CopyOwn
import Derived.Outline
import Derived.Test.YtkhchmgdaolojaaDoorGna
namespace Go.Proofs.YtkhchmgdaolojaaDoor.Tms
open Go Go.RowKit Go.Proofs.YtkhchmgdaolojaaDoor.Reg
set_option maxHeartbeats 1600000 in
theorem flt_own (t : Tm) (v : Value) (P : Nat → Prop) (w : World) (hM : t.size ≤ 1000000000) (h : IsTm w P v t) :
    Calls Tryd.prog 73 #[v] w (MakesTm P t w) := by
  have hl := h.lt
  clear h
  obtain ⟨a, cap, rfl⟩ := hl.form
  have hst := own_start t _ w a cap hl fun b h => h.2
  have HST := Lib.hid hst
  clear hl hst
  go_enter Tryd.func73, Tryd.ntmps73
  go_wp2
  go_loopg [3] t.size (fun k v3 wr => OwnRel t (fun b => P b ∧ b < w.heap.size) w w.heap.size k v3 wr)
  case atStart => exact HST.out
  case round =>
    obtain ⟨S, l, g, cp, n, rfl, hst, inv, hk, hkt⟩ := hrel
    clear HST
    rcases nil_or_snoc l with rfl | ⟨l', x, rfl⟩
    · obtain rfl : n = 0 := hst.len.symm
      have hread := inv.root.2.read
      have hres := inv.res
      have INV := Lib.hid inv
      have HRES := Lib.hid hres
      obtain ⟨a', c', x0, x1, x2, x3, it, hlt⟩ := hread
      have IT := Lib.hid it
      clear inv hres it hst
      go_wp2_with (refine wpList_store_row rfl 28 (.tmp 2) (.tmp 59) rfl (w.heap.size + 1) #[.int .i64 t.k, .int .i64 t.n, .string t.s, .slice a' t.args.length c'] rfl rfl _ _ HRES.out size_term rfl (one4 _ _ _ _ _ _) ?_)
      have hz := setRow_heap wr (w.heap.size + 1) _ (#[.int .i64 t.k, .int .i64 t.n, .string t.s, .slice a' t.args.length c'] : Array Value) _ _ HRES.out
      refine bodyPost_ret (v := .agg #[.int .i64 t.k, .int .i64 t.n, .string t.s, .slice a' t.args.length c']) (results_cell_row Tryd.results73 _ _ (w.heap.size + 1) _ _ _ _ rfl hz Tryd.underlying28 rfl (by kernel_rfl)) rfl (own_end INV.out IT.out)
    · have em : (l' ++ [x]).map ptrOf = l'.map ptrOf ++ [ptrOf x] := by simp
      obtain ⟨hn, hown⟩ := hst
      obtain ⟨m, rfl⟩ : ∃ m, n = m + 1 := ⟨l'.length, by rw [← hn]; simp⟩
      have hm : l'.length = m := by simpa using hn
      rw [em] at hown
      obtain ⟨hown', hcell, hcap, -⟩ := owns_pop hown
      have hstk : Stack w.heap.size g cp m l' wr := ⟨hm, hown'⟩
      obtain ⟨hSx, hx⟩ := inv.items x (by simp)
      have hsum : sumSz l' + x.2.2.size ≤ gk := by have := sumSz_app l' [x]; simp only [sumSz] at this; omega
      obtain ⟨xb, xo, xt⟩ := x
      obtain ⟨xk, xn, xs, xa⟩ := xt
      dsimp only at hcell hSx hx hsum
      have hread := hx.read
      obtain ⟨ba, bc, x0, x1, x2, x3, it, hlt⟩ := hread
      obtain ⟨hSB, hS1, cur, hcur⟩ := inv.mine xb hSx
      have hfz := frozen_of_row wr xb (xo + 3) cur _ hcur
      simp only [Tm.k, Tm.n, Tm.s, Tm.args] at x0 x1 x2 x3 it
      have hmb : m + 1 ≤ 1000000000 := by have := len_sumSz l'; have := size_pos (.mk xk xn xs xa); omega
      have hxb : xa.length ≤ 1000000000 := by have := len_le xa; simp only [Tm.size] at hsum; omega
      have hgk : 0 < gk := by have := size_pos (.mk xk xn xs xa); omega
      have INV := Lib.hid inv.less
      have HA := Lib.hid (show IsSl wr (SP (fun b => P b ∧ b < w.heap.size) S) (.slice ba xa.length bc) xa from it.args)
      have HST := Lib.hid hstk
      have HS := Lib.hid hsum
      have HSX := Lib.hid hSx
      have hB1 : w.heap.size + 1 < wr.heap.size := (Array.getElem?_eq_some_iff.1 inv.res).1
      have HC := Lib.hid hcur
      clear inv it hx hown hown' em hn hcur hm hstk hsum hSx hk
      by_cases hz : xa.length = 0
      · obtain rfl : xa = [] := List.eq_nil_of_length_eq_zero hz
        simp only [List.length_nil] at x3
        have hturn := (INV.out.turn (c2 := 0) (us := []) HSX.out x3 rfl (argsFrom_mk (by simp)) (argsFrom_mk (a := none) (by simp))).1
        have HT := Lib.hid hturn
        clear hturn hz
        go_wp2
        go_roundg (gk - 1)
        case measure => omega
        case rel =>
          have hs := HS.out
          simp only [Tm.size] at hs
          exact ⟨S, l', g, cp, m, rfl, HST.out.other ⟨cur, HC.out⟩ _, HT.out, by omega, by omega⟩
      · obtain ⟨bb, oo, rfl⟩ : ∃ bb oo, ba = some ⟨bb, oo, none⟩ := by obtain ⟨b, o, e, -⟩ := HA.out.at 0 (Nat.pos_of_ne_zero hz); exact ⟨b, o, e⟩
        obtain ⟨i0, hi, hz0, hz1, hz2⟩ := info_parts info_term
        have hat : ∀ i (hi : i < xa.length), SP (fun b => P b ∧ b < w.heap.size) S bb ∧ TmAt wr (SP (fun b => P b ∧ b < w.heap.size) S) bb (oo + i * 4) xa[i] := fun i hi => by
          obtain ⟨b, o, e, hp, ht⟩ := HA.out.at i hi
          simp only [Option.some.injEq, Addr.mk.injEq, and_true] at e
          obtain ⟨rfl, rfl⟩ := e
          exact ⟨hp, ht⟩
        have HAT := Lib.hid hat
        have HLT := Lib.hid (show w.heap.size < wr.heap.size by omega)
        clear hat
        have hz' : ((xa.length : Int) == 0) = false := by rw [beq_eq_false_iff_ne]; omega
        go_wp2_with (first
          | (at_make; refine wpList_make_full _ rfl (.tmp 35) (.tmp 35) 24 rfl wr.heap.size 28 i0 _ 4 Tryd.underlying24 hi hz0 hz1 .i64 .i64 _ _ xa.length rfl rfl rfl rfl (by rw [hz2]; omega) (by unfold maxLen; omega) (Nat.le_refl _) ?_
             intro w1 hown1 hgrow1
             obtain ⟨row, hrow, hrs⟩ := own_row hown1
             have hb1 : Below wr.heap.size wr w1 := (Below.refl _ _).grown hgrow1 (Nat.le_refl _) (by simp)
             have hl1 : wr.heap.size < w1.heap.size := (Array.getElem?_eq_some_iff.1 hrow).1
             have X3 := Lib.hid x3
             have x3 : w1.cell? ⟨xb, xo + 3, none⟩ = some (.slice (some ⟨bb, oo, none⟩) xa.length bc) := (hb1.cell (p := ⟨xb, xo + 3, none⟩) hlt).trans x3
             have HAT1 : Hid (∀ i (hi : i < xa.length), TmAt w1 (SP (fun b => P b ∧ b < w.heap.size) S) bb (oo + i * 4) xa[i]) := Lib.hid fun i hi => (HAT.out i hi).2.imp (fun _ h => h) (fun b _ h => hb1.block b h) _ _ _ (HAT.out i hi).1
             obtain ⟨cs, hcl, hcc, hc1⟩ := row_cells HAT1.out
             have HROW := Lib.hid hrow
             have HRS := Lib.hid hrs
             have HB1 := Lib.hid hb1
             have HCL := Lib.hid hcl
             have HCC := Lib.hid hcc
             have HC1 := Lib.hid hc1
             clear hrow hrs hb1 hown1 hgrow1 hcl hcc hc1)
          | (with_reducible show wpList _ _ _ (⟨some 42, _, _, _, _, _⟩ :: _) _ _; go_loud (refine wpList_copy_all (o := ⟨some 42, _, _, _, _, _⟩) rfl (.tmp 37) (.tmp 41) 24 24 rfl 28 4 xa.length wr.heap.size _ _ ⟨bb, oo, none⟩ Tryd.underlying24 size_term rfl rfl _ _ cs HROW.out HCL.out HRS.out (fun j v h => by rw [Addr.add_lit]; exact HCC.out j v h) HC1.out ?_)
             have hg2 := setRow_heap w1 wr.heap.size _ cs.toArray _ _ HROW.out
             have hb2 : Below wr.heap.size wr (w1.setRow wr.heap.size cs.toArray) := below_setRow HB1.out (Nat.le_refl _) _
             have HAT2 := Lib.hid (copied (P' := SP (fun b => P b ∧ b < w.heap.size) (fun b => S b ∨ b = wr.heap.size)) HAT1.out HCL.out HCC.out hg2 (fun b h => h.elim .inl fun h => .inr (.inl h)) (fun b h hb => setRow_other _ _ _ _ (by
               rcases h with h | h
               · have := h.2; have := HLT.out; omega
               · have := (INV.out.mine b h).2.2; obtain ⟨c, e⟩ := this; have := (Array.getElem?_eq_some_iff.1 e).1; omega)))
             have inv2 := INV.out.new hb2 hB1 hg2
             have hst2 := HST.out.keep hb2
             have hlt2 : wr.heap.size < (w1.setRow wr.heap.size cs.toArray).heap.size := by simp; omega
             have hcur2 : (w1.setRow wr.heap.size cs.toArray).heap[xb]? = some (.cells cur 28 (0, 0)) := (hb2.block _ hlt).trans HC.out
             have x32 : (w1.setRow wr.heap.size cs.toArray).cell? ⟨xb, xo + 3, none⟩ = some (.slice (some ⟨bb, oo, none⟩) xa.length bc) := (hb2.cell (p := ⟨xb, xo + 3, none⟩) hlt).trans X3.out
             have hfz2 : (w1.setRow wr.heap.size cs.toArray).frozen? ⟨xb, xo + 3, none⟩ = false := frozen_of_row _ xb (xo + 3) cur _ hcur2
             clear x3 hl1
             generalize w1.setRow wr.heap.size cs.toArray = w2 at *
             have INV2 := Lib.hid inv2
             have HST2 := Lib.hid hst2
             have HCUR2 := Lib.hid hcur2
             have HG2 := Lib.hid hg2
             have HB2 := Lib.hid hb2
             clear inv2 hst2 hcur2 hg2 hb2 hfz hlt2 x0 x1 x2))
        have old2 : ArgsFrom w2 (SP (fun b => P b ∧ b < w.heap.size) (fun b => S b ∨ b = wr.heap.size)) (some ⟨bb, oo, none⟩) 0 xa := argsFrom_mk fun i hi =>
          ⟨bb, oo, rfl, (HAT.out i hi).1.elim .inl fun h => .inr (.inl h), (HAT.out i hi).2.imp (fun b h => h.elim .inl fun h => .inr (.inl h)) (fun b _ h => HB2.out.block b h) _ _ _ (HAT.out i hi).1⟩
        have new2 : ArgsFrom w2 (SP (fun b => P b ∧ b < w.heap.size) (fun b => S b ∨ b = wr.heap.size)) (some ⟨wr.heap.size, 0, none⟩) 0 xa := argsFrom_mk fun i hi => ⟨wr.heap.size, 0, rfl, .inr (.inr rfl), by rw [Nat.zero_add]; exact HAT2.out i hi⟩
        obtain ⟨inv3, rd3⟩ := INV2.out.turn (c2 := xa.length) (g := xb) (.inl HSX.out) x32 rfl old2 new2
        have hst3 := HST2.out.other (b := xb) (q := xo + 3) ⟨cur, HCUR2.out⟩ (.slice (some ⟨wr.heap.size, 0, none⟩) xa.length xa.length)
        have hin3 : InnRel t (fun b => P b ∧ b < w.heap.size) w w.heap.size (fun b => S b ∨ b = wr.heap.size) l' xa wr.heap.size (.slice (some ⟨g, 0, none⟩) m cp) (.int .i64 ((0 : Nat) : Int)) (w2.setCell ⟨xb, xo + 3, none⟩ (.slice (some ⟨wr.heap.size, 0, none⟩) xa.length xa.length)) :=
          ⟨l', g, cp, m, 0, rfl, by omega, rfl, hst3, inv3, fun i hi => rd3 _ _ _ (HAT2.out i hi), .inr rfl, by simp [sizeL]⟩
        have HIN := Lib.hid hin3
        clear old2 new2 inv3 rd3 hst3 hin3 x32 hfz2 hcell hz x3
        generalize w2.setCell ⟨xb, xo + 3, none⟩ (.slice (some ⟨wr.heap.size, 0, none⟩) xa.length xa.length) = w3 at *
        clear HA HAT X3 HAT1 HROW HRS HB1 HCL HCC HC1 HAT2 INV2 HST2 HCUR2 HG2 HB2 INV HST HC hi hz0 hz1 hz2
        generalize wr.heap.size = g2 at *
        go_loopw [3, 49] (fun v3 c w4 => InnRel t (fun b => P b ∧ b < w.heap.size) w w.heap.size (fun b => S b ∨ b = g2) l' xa g2 v3 c w4) (fun _ c _ => xa.length - (intOf c).toNat)
        case atStart => exact HIN.out
        case round =>
          obtain ⟨l4, g4, cp4, n4, j, rfl, hj, rfl, hst4, inv4, hat4, hs4, hsum4⟩ := hrel
          clear HIN
          have HST4 := Lib.hid hst4
          have HAT4 := Lib.hid hat4
          have hB4 : w.heap.size + 1 < wr.heap.size := (Array.getElem?_eq_some_iff.1 inv4.res).1
          have hn4 : n4 ≤ 1000000000 := by
            have h1 := hst4.len
            have h2 := len_sumSz l4
            have h3 := sizeL_take xa j
            have h4 := HS.out
            simp only [Tm.size] at h4
            omega
          have INV4 := Lib.hid inv4
          have HSUM4 := Lib.hid hsum4
          clear hst4 inv4 hat4 hsum4
          by_cases hjn : j < xa.length
          · obtain ⟨i1, hi1, hw0, hw1, hw2⟩ := info_parts info_ptr
            have hjn' : (j : Int) < (xa.length : Int) := by omega
            have hj0 : (0 : Int) ≤ (j : Int) := by omega
            go_wp2_with (
              (at_builtin; refine wpList_append_own _ rfl (.tmp 52) (.tmp 56) 108 rfl w.heap.size 107 i1 (.pointer none) 1 8 Tryd.underlying108 hi1 hw0 hw1 hw2 rfl (by decide) _ n4 (l4.map ptrOf) rfl (HST4.out.owns.alloc _) ⟨wr.heap.size, 0, none⟩ 1 1 [ptrOf (g2, j * 4, xa[j])] rfl rfl (one_news wr _ _) (by simp [Value.oneCell']) (by unfold maxLen; omega) (by omega) (by simp; omega) ?_
               intro v5 w5 hown5 hgr5 _
               obtain ⟨g5, cp5, rfl, hst5, inv5, rd5⟩ := own_push HST4.out INV4.out hs4 (HAT4.out j hjn) hown5 hgr5
               have HST5 := Lib.hid hst5
               have INV5 := Lib.hid inv5
               have RD5 := Lib.hid rd5
               clear hst5 inv5 rd5 hown5 hgr5))
            go_roundw
            case rel => exact ⟨_, g5, cp5, n4 + 1, j + 1, by go_num, by omega, rfl, HST5.out, INV5.out, fun i hi => RD5.out _ _ _ hs4 (HAT4.out i hi), hs4, by have h1 := sumSz_app l4 [(g2, j * 4, xa[j])]; have h2 := sizeL_succ xa j hjn; have h3 := HSUM4.out; simp only [sumSz] at h1; omega⟩
            case measure => simp [intOf]; omega
          · obtain rfl : j = xa.length := by omega
            go_wp2
            go_roundg (gk - 1)
            case measure => omega
            case rel =>
              have hs := HS.out
              have hs4 := HSUM4.out
              rw [List.take_length] at hs4
              simp only [Tm.size] at hs
              exact ⟨_, l4, g4, cp4, n4, rfl, HST4.out, INV4.out, by omega, by omega⟩

end Go.Proofs.YtkhchmgdaolojaaDoor.Tms
