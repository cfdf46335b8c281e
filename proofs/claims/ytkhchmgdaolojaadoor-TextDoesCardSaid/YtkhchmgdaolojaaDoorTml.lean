
/-
  term.List, walked over the program.
-/
import Derived.Test.YtkhchmgdaolojaaDoorAl3
import Derived.Test.YtkhchmgdaolojaaDoorChn
namespace Go.Proofs.YtkhchmgdaolojaaDoor.Tms
open Go Go.RowKit Go.Proofs.YtkhchmgdaolojaaDoor.Reg
set_option linter.unusedVariables false

abbrev Fr (w : World) (g : Nat) : Nat → Prop := fun b => w.heap.size + 2 ≤ b ∧ b ≠ g
def LsRel (w : World) (g : Nat) (ts : List Tm) (e : Tm) (vi : Value) (wr : World) : Prop :=
  ∃ (k : Nat) (a : Option Addr) (c : Nat), k ≤ ts.length ∧ vi = .int .i64 ((k : Int) - 1) ∧ wr.heap[g]? = some (.cells #[.int .i64 (listT (ts.drop k) e).k, .int .i64 (listT (ts.drop k) e).n, .string (listT (ts.drop k) e).s, .slice a (listT (ts.drop k) e).args.length c] 28 (0, 0)) ∧
    IsTm wr (Fr w g) (.agg #[.int .i64 (listT (ts.drop k) e).k, .int .i64 (listT (ts.drop k) e).n, .string (listT (ts.drop k) e).s, .slice a (listT (ts.drop k) e).args.length c]) (listT (ts.drop k) e) ∧
    wr.heap[w.heap.size + 1]? = some (.cells #[.int .i64 0, .int .i64 0, .string ⟨#[]⟩, .slice none 0 0] 28 (0, 0)) ∧ Below w.heap.size w wr ∧ g < wr.heap.size
set_option maxRecDepth 100000 in
set_option maxHeartbeats 1600000 in
theorem tm_listN (ts : List Tm) (e : Tm) (v1 v2 : Value) (P P' : Nat → Prop) (w : World) (hM : sizeL ts + e.size ≤ 1000000000) (h1 : IsSl w P v1 ts) (h2 : IsTm w P' v2 e) :
    Calls Tryd.prog 62 #[v1, v2] w fun en w' => ∃ v, en = .returned v ∧ IsTm w' (fun b => w.heap.size ≤ b) v (listT ts e) ∧ Below w.heap.size w w' := by
  obtain ⟨a1, c1, rfl⟩ := h1.form
  obtain ⟨a2, c2, rfl⟩ := h2.form
  have S1 := Lib.hid h1
  have S2 := Lib.hid h2
  have HM := Lib.hid hM
  have hlen : ts.length ≤ 1000000000 := by have := len_le ts; omega
  obtain ⟨t0, t1, tsz, tbl⟩ := two w (.cells #[.int .i64 e.k, .int .i64 e.n, .string e.s, .slice a2 e.args.length c2] 28 (0, 0)) (.cells #[.int .i64 0, .int .i64 0, .string ⟨#[]⟩, .slice none 0 0] 28 (0, 0))
  have T0 := Lib.hid t0
  have T1 := Lib.hid t1
  have TZ := Lib.hid tsz
  have TB := Lib.hid tbl
  obtain ⟨x0, x1, x2, x3⟩ := row4 t0
  clear h1 h2 hM t0 t1 tsz tbl
  have HES : Hid (e.size ≤ 1000000000) := Lib.hid (by have := HM.out; omega)
  go_enter Tryd.func62, Tryd.ntmps62
  go_wp2_with fail
  generalize (w.alloc (.cells #[.int .i64 e.k, .int .i64 e.n, .string e.s, .slice a2 e.args.length c2] 28 (0, 0))).alloc (.cells #[.int .i64 0, .int .i64 0, .string ⟨#[]⟩, .slice none 0 0] 28 (0, 0)) = W at *
  refine (tm_copy e _ _ _ HES.out (S2.out.below TB.out)).mono ?_
  rintro e2 w2 ⟨v2, rfl, hi2, hb2⟩
  obtain ⟨a3, c3, rfl⟩ := hi2.form
  have hrow := heap_alloc_new w2 (.cells #[.int .i64 e.k, .int .i64 e.n, .string e.s, .slice a3 e.args.length c3] 28 (0, 0))
  have hal : Below w2.heap.size w2 (w2.alloc (.cells #[.int .i64 e.k, .int .i64 e.n, .string e.s, .slice a3 e.args.length c3] 28 (0, 0))) := (Below.refl _ _).alloc (Nat.le_refl _) _
  have hw2 : W.heap.size ≤ w2.heap.size := hb2.size
  have hst : LsRel w w2.heap.size ts e (.int .i64 ((ts.length : Int) - 1)) (w2.alloc (.cells #[.int .i64 e.k, .int .i64 e.n, .string e.s, .slice a3 e.args.length c3] 28 (0, 0))) := by
    have e0 : listT (ts.drop ts.length) e = e := by simp [listT]
    refine ⟨ts.length, a3, c3, Nat.le_refl _, rfl, ?_, ?_, ?_, ?_, ?_⟩
    · rw [e0]; exact hrow
    · rw [e0]
      exact (hi2.lt.imp (P' := Fr w w2.heap.size) (fun b h => ⟨by have := h.1.resolve_left (fun h => h); have := TZ.out; omega, by have := h.2; omega⟩) fun _ _ _ => rfl).below hal
    · exact (hal.block _ (by have := TZ.out; omega)).trans ((hb2.block _ (by have := TZ.out; omega)).trans T1.out)
    · exact TB.out.trans ((hb2.mono (by have := TZ.out; omega)).trans (hal.mono (by have := TZ.out; omega)))
    · simp
  have HST := Lib.hid hst
  have HG : Hid (w.heap.size + 2 ≤ w2.heap.size) := Lib.hid (by have := TZ.out; omega)
  clear hst hrow hal hi2 hb2 hw2 x0 x1 x2 x3
  go_wp2
  generalize w2.alloc (.cells #[.int .i64 e.k, .int .i64 e.n, .string e.s, .slice a3 e.args.length c3] 28 (0, 0)) = W2 at *
  generalize w2.heap.size = g at *
  go_loopw [6] (fun vi wr => LsRel w g ts e vi wr) (fun vi _ => idxOf vi)
  case atStart => exact HST.out
  case round =>
    obtain ⟨k, a, c, hk, hvi, hrow, hi, hres, hbl, hlt⟩ := hrel
    have HG2 := HG.out
    rcases k with _ | m
    · rw [List.drop_zero] at hrow hi
      obtain rfl : u6 = .int .i64 (-1) := hvi
      generalize hU : listT ts e = U at *
      have HU := Lib.hid hU
      clear hU
      obtain ⟨x0, x1, x2, x3⟩ := row4 hrow
      have HI := Lib.hid hi
      have HRES := Lib.hid hres
      have HBL := Lib.hid hbl
      clear HST hrow hi hres hbl
      go_wp2_with (refine wpList_store_row rfl 28 (.tmp 4) (.tmp 24) rfl (w.heap.size + 1) #[.int .i64 U.k, .int .i64 U.n, .string U.s, .slice a U.args.length c] rfl rfl _ _ HRES.out size_term rfl (one4 _ _ _ _ _ _) ?_)
      have hz := setRow_heap wr (w.heap.size + 1) _ (#[.int .i64 U.k, .int .i64 U.n, .string U.s, .slice a U.args.length c] : Array Value) _ _ HRES.out
      have hbw := below_setRow HBL.out (show w.heap.size ≤ w.heap.size + 1 by omega) (#[.int .i64 U.k, .int .i64 U.n, .string U.s, .slice a U.args.length c] : Array Value)
      have hr : IsTm (wr.setRow (w.heap.size + 1) (#[.int .i64 U.k, .int .i64 U.n, .string U.s, .slice a U.args.length c] : Array Value)) (fun b => w.heap.size ≤ b) (.agg #[.int .i64 U.k, .int .i64 U.n, .string U.s, .slice a U.args.length c]) U := HI.out.imp (fun b h => by have := h.1; omega) fun b h _ => setRow_other _ _ _ _ (by have := h.1; omega)
      exact bodyPost_ret (v := .agg #[.int .i64 U.k, .int .i64 U.n, .string U.s, .slice a U.args.length c]) (results_cell_row Tryd.results62 _ _ (w.heap.size + 1) _ _ _ _ rfl hz Tryd.underlying28 rfl (by kernel_rfl)) rfl ⟨_, rfl, by rw [HU.out]; exact hr, hbw⟩
    obtain rfl : u6 = .int .i64 (m : Int) := by rw [hvi]; congr 1; omega
    have hml : m < ts.length := hk
    have hld := listT_drop (e := e) hml
    obtain ⟨g1, o1, ea, p1, m1⟩ := S1.out.at m hml
    have hxs : ts[m].size ≤ 1000000000 := by have := size_mem hml; have := HM.out; omega
    generalize ts[m] = X at *
    generalize listT (ts.drop (m + 1)) e = U at *
    obtain ⟨c1', d1, y0, y1, y2, y3, i1, l1⟩ := m1.read
    have hd : Below wr.heap.size wr wr.drew := (Below.refl _ _).drew
    have hbd : Below w.heap.size w wr.drew := hbl.drew
    have at1 : ∀ o, wr.drew.cell? ⟨g1, o, none⟩ = w.cell? ⟨g1, o, none⟩ := fun o => hbd.cell (p := ⟨g1, o, none⟩) l1
    replace y0 := (at1 _).trans y0
    replace y1 := (at1 _).trans y1
    replace y2 := (at1 _).trans y2
    replace y3 := (at1 _).trans y3
    have HX := Lib.hid (i1.below hbd)
    have HI := Lib.hid (hi.below hd)
    have HROW := Lib.hid ((hd.block _ hlt).trans hrow)
    have HRES := Lib.hid ((hd.block _ (by omega)).trans hres)
    have HBL := Lib.hid hbd
    have HLD := Lib.hid hld
    have HXS := Lib.hid hxs
    replace hlt : g < wr.drew.heap.size := hlt
    have hin : (m : Int) < (ts.length : Int) := by omega
    have hin0 : (0 : Int) ≤ (m : Int) := by omega
    subst ea
    clear HST m1 hvi hk hld hxs hrow hi hres hbl hd hbd at1 i1 l1 p1
    go_wp2
    refine wp_region_rest (by kernel_rfl) ?_
    generalize wr.drew = W0 at *
    obtain ⟨x0, x1, x2, x3⟩ := row4 HROW.out
    refine rest_chain 0 6 [(false, [0, 1, 2, 3, 5]), (true, [4])] [(false, [_, _, _, _, _]), (true, [_])] rfl (by kernel_rfl) (by kernel_rfl) rfl (by kernel_rfl) (by kernel_rfl) (.inr (by kernel_rfl)) ?_
    refine chain_soft ?_
    intro E hE
    go_wp2
    clear x0 x1 x2 x3 y0 y1 y2 y3
    refine chain_one ?_
    intro E hE
    go_wp2_with (go_at_call 75
                 refine (tm_copy X _ _ _ HXS.out HX.out).mono ?_
                 rintro e2 w3 ⟨v2, rfl, hi3, hb3⟩
                 obtain ⟨a4, c4, rfl⟩ := hi3.form
                 have HB3 := Lib.hid hb3
                 have HI3 := Lib.hid hi3
                 clear hb3 hi3)
    refine ⟨HB3.out, ?_⟩
    refine chain_nil ?_
    have hs3 := HB3.out.size
    have hal : Below w3.heap.size w3 (w3.alloc (.cells #[.int .i64 X.k, .int .i64 X.n, .string X.s, .slice a4 X.args.length c4, .int .i64 U.k, .int .i64 U.n, .string U.s, .slice a U.args.length c] 28 (0, 0))) := (Below.refl _ _).alloc (Nat.le_refl _) _
    have row4' : (w3.alloc (.cells #[.int .i64 X.k, .int .i64 X.n, .string X.s, .slice a4 X.args.length c4, .int .i64 U.k, .int .i64 U.n, .string U.s, .slice a U.args.length c] 28 (0, 0))).heap[g]? = _ := (hal.block _ (by omega)).trans ((HB3.out.block _ hlt).trans HROW.out)
    have res4 : (w3.alloc (.cells #[.int .i64 X.k, .int .i64 X.n, .string X.s, .slice a4 X.args.length c4, .int .i64 U.k, .int .i64 U.n, .string U.s, .slice a U.args.length c] 28 (0, 0))).heap[w.heap.size + 1]? = _ := (hal.block _ (by omega)).trans ((HB3.out.block _ (by omega)).trans HRES.out)
    have bl4 := HBL.out.trans ((HB3.out.mono HBL.out.size).trans (hal.mono (by have := HBL.out.size; omega)))
    have ix : IsTm w3 (Fr w g) (.agg #[.int .i64 X.k, .int .i64 X.n, .string X.s, .slice a4 X.args.length c4]) X := HI3.out.imp (fun b h => ⟨by have := h.resolve_left (fun h => h); omega, by have := h.resolve_left (fun h => h); omega⟩) fun _ _ _ => rfl
    have iu := (HI.out.below HB3.out).below hal
    have sl4 := pair_sl (t1 := X) (t2 := U) (cap := 2) (show Fr w g w3.heap.size from ⟨by omega, by omega⟩) (heap_alloc_new w3 (.cells #[.int .i64 X.k, .int .i64 X.n, .string X.s, .slice a4 X.args.length c4, .int .i64 U.k, .int .i64 U.n, .string U.s, .slice a U.args.length c] 28 (0, 0))) (ix.below hal).args iu.args
    have hsz4 : (w3.alloc (.cells #[.int .i64 X.k, .int .i64 X.n, .string X.s, .slice a4 X.args.length c4, .int .i64 U.k, .int .i64 U.n, .string U.s, .slice a U.args.length c] 28 (0, 0))).heap.size = w3.heap.size + 1 := by simp
    have ROW4 := Lib.hid row4'
    have RES4 := Lib.hid res4
    have BL4 := Lib.hid bl4
    have SL4 := Lib.hid sl4
    have HSZ4 := Lib.hid hsz4
    clear hal row4' res4 bl4 ix iu sl4 hsz4
    refine rest_lineL 6 9 [_, _, _] rfl (by kernel_rfl) (by decide) (by decide) (by kernel_rfl) ?_
    go_wp2_with (refine wpList_store_row rfl 28 (.tmp 5) (.tmp 23) rfl g #[.int .i64 4, .int .i64 0, .string dotS, .slice (some ⟨w3.heap.size, 0, none⟩) 2 2] rfl rfl _ _ ROW4.out size_term rfl (one4 _ _ _ _ _ _) ?_)
    have hz := setRow_heap _ g _ (#[.int .i64 4, .int .i64 0, .string dotS, .slice (some ⟨w3.heap.size, 0, none⟩) 2 2] : Array Value) _ _ ROW4.out
    have hoth : ∀ b, b ≠ g → ((w3.alloc (.cells #[.int .i64 X.k, .int .i64 X.n, .string X.s, .slice a4 X.args.length c4, .int .i64 U.k, .int .i64 U.n, .string U.s, .slice a U.args.length c] 28 (0, 0))).setRow g (#[.int .i64 4, .int .i64 0, .string dotS, .slice (some ⟨w3.heap.size, 0, none⟩) 2 2] : Array Value)).heap[b]? = (w3.alloc (.cells #[.int .i64 X.k, .int .i64 X.n, .string X.s, .slice a4 X.args.length c4, .int .i64 U.k, .int .i64 U.n, .string U.s, .slice a U.args.length c] 28 (0, 0))).heap[b]? := fun b hb => setRow_other _ _ _ _ hb
    have hbw := below_setRow BL4.out (show w.heap.size ≤ g by omega) (#[.int .i64 4, .int .i64 0, .string dotS, .slice (some ⟨w3.heap.size, 0, none⟩) 2 2] : Array Value)
    have hszr : ((w3.alloc (.cells #[.int .i64 X.k, .int .i64 X.n, .string X.s, .slice a4 X.args.length c4, .int .i64 U.k, .int .i64 U.n, .string U.s, .slice a U.args.length c] 28 (0, 0))).setRow g (#[.int .i64 4, .int .i64 0, .string dotS, .slice (some ⟨w3.heap.size, 0, none⟩) 2 2] : Array Value)).heap.size = w3.heap.size + 1 := by simp
    have hnew : IsTm ((w3.alloc (.cells #[.int .i64 X.k, .int .i64 X.n, .string X.s, .slice a4 X.args.length c4, .int .i64 U.k, .int .i64 U.n, .string U.s, .slice a U.args.length c] 28 (0, 0))).setRow g (#[.int .i64 4, .int .i64 0, .string dotS, .slice (some ⟨w3.heap.size, 0, none⟩) 2 2] : Array Value)) (Fr w g) (.agg #[.int .i64 4, .int .i64 0, .string dotS, .slice (some ⟨w3.heap.size, 0, none⟩) 2 2]) (compT dotS [X, U]) := (comp_is (s := dotS) (l := [X, U]) SL4.out).imp (fun _ h => h) fun b h _ => hoth b h.2
    refine then_rest (rest_end (by decide) ?_)
    go_wp2
    go_roundw
    case rel => exact ⟨m, some ⟨w3.heap.size, 0, none⟩, 2, by omega, rfl, by rw [HLD.out]; exact hz, by rw [HLD.out]; exact hnew, (hoth _ (by omega)).trans RES4.out, hbw, by omega⟩
    case measure => simp [idxOf]
end Go.Proofs.YtkhchmgdaolojaaDoor.Tms
