
/-
  The reference's Look.
-/
import Derived.Test.YtoklbeogmcdgaaaRfa
import Derived.Test.YtoklbeogmcdgaaaApi
namespace Go.Proofs.Ytoklbeogmcdgaaa.Tms
open Go Go.RowKit Go.Proofs.Ytoklbeogmcdgaaa.Reg Go.Proofs.Ytoklbeogmcdgaaa.Rws Go.Proofs.Ytoklbeogmcdgaaa.Maps
set_option linter.unusedVariables false
set_option linter.unusedSimpArgs false

theorem row5r {w : World} {g : Nat} {y0 y1 y2 y3 y4 : Value} {T : TypeId} {fr : Nat × Nat} (h : w.heap[g]? = some (.cells #[y0, y1, y2, y3, y4] T fr)) :
    w.cell? ⟨g, 0, none⟩ = some y0 ∧ w.cell? ⟨g, 1, none⟩ = some y1 ∧ w.cell? ⟨g, 2, none⟩ = some y2 ∧ w.cell? ⟨g, 3, none⟩ = some y3 ∧ w.cell? ⟨g, 4, none⟩ = some y4 :=
  ⟨cell_of_row w g 0 _ _ _ h, cell_of_row w g 1 _ _ _ h, cell_of_row w g 2 _ _ _ h, cell_of_row w g 3 _ _ _ h, cell_of_row w g 4 _ _ _ h⟩
set_option maxRecDepth 100000 in
set_option maxHeartbeats 4000000 in
theorem ref_Look {S : Sto} {D : Nat → Prop} {p : Nat} (w : World) (hS : RefAt w D p S) (hko : KindOk S) (f x r : Nat) (c : SCell) (hc : Ch S f x r) (hr : S.cells[r]? = some c) (hlen : S.cells.length ≤ 20000000) (hargs : c.args.length ≤ 1000000) (hv : c.k = 1 → c.args = []) :
    Calls Try.prog 38 #[.pointer (some ⟨p, 0, none⟩), .int .i64 x] w (LookPost (shellC r c) c.args w) := by
  have hb0 := below_new w (.cells #[.int .i64 0, .int .i64 0, .string ⟨#[]⟩, .slice none 0 0] 33 (0, 0))
  have hn0 := heap_alloc_new w (.cells #[.int .i64 0, .int .i64 0, .string ⟨#[]⟩, .slice none 0 0] 33 (0, 0))
  obtain ⟨hrl, hrc⟩ := List.getElem?_eq_some_iff.1 hr
  have HS := Lib.hid (hS.below hb0)
  have HB := Lib.hid hb0
  have HN := Lib.hid hn0
  have HX := Lib.hid (dec_yes hc.lt)
  have HC := Lib.hid hc
  have HV := Lib.hid hv
  have HKO := Lib.hid hko
  clear hb0 hn0 hS hc hr hv hko
  go_enter Try.func38, Try.ntmps38
  go_wp2_with fail
  refine (ref_there _ HS.out x).mono ?_
  rintro e1 w1 ⟨rfl, rfl⟩
  rw [HX.out]
  go_wp2_with fail
  refine (ref_Follow _ HS.out HKO.out f x r HC.out).mono ?_
  rintro e1 w1 ⟨rfl, rfl⟩
  have hrow' := HS.out
  obtain ⟨cv, bv, A, hrow⟩ := hrow'
  obtain ⟨g, cap, av, rfl, q1, q2, c0, c1, c2, c3, c4, hav⟩ := hrow.cell r hrl
  rw [hrc] at c0 c1 c2 c4 hav
  obtain ⟨qa, ka, rfl⟩ := hav.form
  obtain ⟨x0, x1, x2⟩ := row3 hrow.row
  have hx0 : (0 : Int) ≤ (r : Int) := by omega
  have hx1 : (r : Int) < (S.cells.length : Int) := by omega
  have HAV := Lib.hid hav
  clear hav hrow hrc
  go_upto_region 5 with fail
  have hsz0 : (w.alloc (.cells #[.int .i64 0, .int .i64 0, .string ⟨#[]⟩, .slice none 0 0] 33 (0, 0))).heap.size = w.heap.size + 1 := by simp
  obtain ⟨w1, hw1⟩ : ∃ w1, w1 = w.alloc (.cells #[.int .i64 0, .int .i64 0, .string ⟨#[]⟩, .slice none 0 0] 33 (0, 0)) := ⟨_, rfl⟩
  rw [← hw1] at HN HB HAV hsz0 HS ⊢
  clear hw1 x0 x1 x2 c0 c1 c2 c3 c4 HS
  have hb2 := below_new w1 (.cells #[.int .i64 c.k, .int .i64 c.n, .string c.s, .slice qa c.args.length ka, .int .i64 c.lk] 122 (0, 0))
  have HR2 := Lib.hid (heap_alloc_new w1 (.cells #[.int .i64 c.k, .int .i64 c.n, .string c.s, .slice qa c.args.length ka, .int .i64 c.lk] 122 (0, 0)))
  have HN2 := Lib.hid ((hb2.block _ (by omega)).trans HN.out)
  have HB2 := Lib.hid (HB.out.trans (hb2.mono HB.out.size))
  have HA2 := Lib.hid (HAV.out.move (w' := w1.alloc (.cells #[.int .i64 c.k, .int .i64 c.n, .string c.s, .slice qa c.args.length ka, .int .i64 c.lk] 122 (0, 0))) (P' := fun b => b < w1.heap.size) (fun b hb _ => hb.2.2) fun b hb hlt => hb2.block b hlt)
  rw [hsz0] at HR2
  have hsz2 : (w1.alloc (.cells #[.int .i64 c.k, .int .i64 c.n, .string c.s, .slice qa c.args.length ka, .int .i64 c.lk] 122 (0, 0))).heap.size = w.heap.size + 2 := by simp; omega
  obtain ⟨w2, hw2⟩ : ∃ w2, w2 = w1.alloc (.cells #[.int .i64 c.k, .int .i64 c.n, .string c.s, .slice qa c.args.length ka, .int .i64 c.lk] 122 (0, 0)) := ⟨_, rfl⟩
  rw [← hw2] at HR2 HN2 HB2 HA2 hsz2 ⊢
  clear hw2 hb2 HB HN HAV
  obtain ⟨y0, y1, y2, y3, y4⟩ := row5r HR2.out
  by_cases k1 : c.k = 1
  · have e1 : (c.k == 1) = true := by simpa using k1
    have hsh : shellC r c = .mk 1 r ⟨#[]⟩ [] := if_pos k1
    have hargs0 := HV.out k1
    have HARG := Lib.hid hargs0
    have HSH := Lib.hid hsh
    clear k1 hsh hargs0
    go_wp2_with (with_reducible show wpList _ _ _ (⟨none, .store _ (.tmp 4) _, _, _, _, _⟩ :: _) _ _
                 refine wpList_store_row rfl 33 (.tmp 4) (.tmp 26) rfl w.heap.size #[.int .i64 1, .int .i64 r, .string ⟨#[]⟩, .slice none 0 0] rfl rfl _ _ HN2.out size_term rfl (one4 _ _ _ _ _ _) ?_)
    have hz := setRow_heap _ w.heap.size _ #[.int .i64 1, .int .i64 r, .string ⟨#[]⟩, .slice none 0 0] _ _ HN2.out
    refine bodyPost_ret (v := .tuple #[.agg #[.int .i64 1, .int .i64 r, .string ⟨#[]⟩, .slice none 0 0], .slice none 0 0]) (Push.results_cell_tmp Try.results38 _ _ w.heap.size _ _ _ _ _ rfl (by simp) hz Try.underlying33 rfl (by kernel_rfl)) rfl ⟨.slice none 0 0, ?_, ?_, below_setRow HB2.out (Nat.le_refl _) _⟩
    · rw [HSH.out]; rfl
    · rw [HARG.out]; exact IntSl.nil _ _
  · have e1 : (c.k == 1) = false := by simpa using k1
    have hsh : shellC r c = .mk c.k c.n c.s [] := if_neg k1
    have HSH := Lib.hid hsh
    clear k1 hsh
    go_wp2
    refine wp_region_rest (by kernel_rfl) ?_
    have hdr := (Below.refl w2.heap.size w2).drew
    have HRW := Lib.hid ((hdr.block (w.heap.size + 1) (by omega)).trans HR2.out)
    have HNW := Lib.hid ((hdr.block w.heap.size (by omega)).trans HN2.out)
    have HBW := Lib.hid (HB2.out.trans (hdr.mono HB2.out.size))
    have HAW := Lib.hid (HA2.out.move (w' := w2.drew) (P' := fun b => b < w1.heap.size) (fun b hb _ => hb) fun b hb hlt => hdr.block b hlt)
    have hszW : w2.drew.heap.size = w.heap.size + 2 := hsz2
    clear hdr HR2 HN2 HB2 HA2 hsz2 y0 y1 y2 y3 y4
    generalize w2.drew = W0 at *
    refine rest_chainP (fun u => Below W0.heap.size W0 u) 0 11 (.soft 0 (.soft 1 (.soft 2 (.soft 3 (.soft 4 (.soft 5 (.soft 6 (.soft 8 (.soft 9 (.one 7 (.one 10 .nil))))))))))) (.soft _ (.soft _ (.soft _ (.soft _ (.soft _ (.soft _ (.soft _ (.soft _ (.soft _ (.one _ (.one _ .nil))))))))))) ⟨rfl, ⟨rfl, ⟨rfl, ⟨rfl, ⟨rfl, ⟨rfl, ⟨rfl, ⟨rfl, ⟨rfl, ⟨rfl, ⟨rfl, trivial⟩⟩⟩⟩⟩⟩⟩⟩⟩⟩⟩ (by kernel_rfl) (by kernel_rfl) (by kernel_rfl) (by kernel_rfl) (.inr (by kernel_rfl)) (Below.refl _ _) ?_
    refine chainP_soft (a1 := ?ma1) (by kernel_rfl) (by kernel_rfl) ?mh1 ?mr1
    case mh1 =>
      intro u hu E hE
      go_wp2
      rfl
    refine chainP_soft (a1 := ?ma2) (by kernel_rfl) (by kernel_rfl) ?mh2 ?mr2
    case mh2 =>
      intro u hu E hE
      obtain ⟨y0, y1, y2, y3, y4⟩ := row5r ((hu.block (w.heap.size + 1) (by omega)).trans HRW.out)
      go_wp2
      rfl
    refine chainP_soft (a1 := ?ma3) (by kernel_rfl) (by kernel_rfl) ?mh3 ?mr3
    case mh3 =>
      intro u hu E hE
      go_wp2
      rfl
    refine chainP_soft (a1 := ?ma4) (by kernel_rfl) (by kernel_rfl) ?mh4 ?mr4
    case mh4 =>
      intro u hu E hE
      obtain ⟨y0, y1, y2, y3, y4⟩ := row5r ((hu.block (w.heap.size + 1) (by omega)).trans HRW.out)
      go_wp2
      rfl
    refine chainP_soft (a1 := ?ma5) (by kernel_rfl) (by kernel_rfl) ?mh5 ?mr5
    case mh5 =>
      intro u hu E hE
      go_wp2
      rfl
    refine chainP_soft (a1 := ?ma6) (by kernel_rfl) (by kernel_rfl) ?mh6 ?mr6
    case mh6 =>
      intro u hu E hE
      obtain ⟨y0, y1, y2, y3, y4⟩ := row5r ((hu.block (w.heap.size + 1) (by omega)).trans HRW.out)
      go_wp2
      rfl
    refine chainP_soft (a1 := ?ma7) (by kernel_rfl) (by kernel_rfl) ?mh7 ?mr7
    case mh7 =>
      intro u hu E hE
      go_wp2
      rfl
    refine chainP_soft (a1 := ?ma8) (by kernel_rfl) (by kernel_rfl) ?mh8 ?mr8
    case mh8 =>
      intro u hu E hE
      go_wp2
      rfl
    refine chainP_soft (a1 := ?ma9) (by kernel_rfl) (by kernel_rfl) ?mh9 ?mr9
    case mh9 =>
      intro u hu E hE
      obtain ⟨y0, y1, y2, y3, y4⟩ := row5r ((hu.block (w.heap.size + 1) (by omega)).trans HRW.out)
      go_wp2
      rfl
    refine chainP_one ?_
    intro E hE
    go_wp2
    have hb3 := below_new W0 (.cells #[] 3 (0, 0))
    have hn3 := heap_alloc_new W0 (.cells #[] 3 (0, 0))
    refine ⟨hb3, ?_⟩
    have hown : Own iKind (W0.alloc (.cells #[] 3 (0, 0))) (w.heap.size + 2) (fun _ => False) (.slice (some ⟨W0.heap.size, 0, none⟩) 0 0) [] :=
      ⟨[], ⟨rfl, .inr ⟨W0.heap.size, 0, #[], rfl, by omega, hn3, Nat.le_refl _, by unfold maxLen; omega, rfl, rfl⟩⟩, trivial⟩
    rw [hszW] at hown
    have HOWN := Lib.hid hown
    have hsz3 : (W0.alloc (.cells #[] 3 (0, 0))).heap.size = w.heap.size + 3 := by simp; omega
    have HB3 := Lib.hid hb3
    have HA3 := Lib.hid (HAW.out.move (w' := W0.alloc (.cells #[] 3 (0, 0))) (P' := fun b => b < w1.heap.size) (fun b hb _ => hb) fun b hb hlt => hb3.block b hlt)
    clear hown hb3 hn3
    refine chainP_one ?_
    intro E hE
    refine wpList_putJ rfl (.tmp 34) (.tmp 36) _ rfl Try.underlying50 info_int rfl (w.heap.size + 2) _ (.slice (some ⟨w.heap.size + 2, 0, none⟩) 0 0) [] c.args qa ka rfl HOWN.out rfl HA3.out (by unfold maxLen; simp; omega) (by simp; omega) (by omega) ?_
    intro v4 w4 ho4 hb4 hg4 hv4
    rw [List.nil_append] at ho4
    have hlow := ho4.low
    have HO4 := Lib.hid (own_is ho4)
    obtain ⟨q4, k4, rfl⟩ := HO4.out.form
    have hb4' : Below W0.heap.size W0 w4 := HB3.out.trans ⟨hb4.os, hb4.tape, hb4.output, by have := hg4.size; omega, fun b hb => hg4.block b (by omega) fun e => by simp only [Value.ownBlock, Option.some.injEq] at e; omega⟩
    refine hE _ _ ⟨hb4', ?_⟩
    refine chainP_nil ?_
    refine rest_lineL 11 13 [_, _] rfl (by kernel_rfl) (by decide) (by decide) (by kernel_rfl) ?_
    have HN4 := Lib.hid ((hb4'.block w.heap.size (by omega)).trans HNW.out)
    have HB4 := Lib.hid (HBW.out.trans (hb4'.mono HBW.out.size))
    have hz4 := hb4'.size
    clear ho4 hb4 hg4 hv4 HOWN HA3 HB3 hb4' HRW HNW HBW HAW
    go_wp2_with (with_reducible show wpList _ _ _ (⟨none, .store _ (.tmp 4) _, _, _, _, _⟩ :: _) _ _
                 refine wpList_store_row rfl 33 (.tmp 4) (.tmp 33) rfl w.heap.size #[.int .i64 c.k, .int .i64 c.n, .string c.s, .slice none 0 0] rfl rfl _ _ HN4.out size_term rfl (one4 _ _ _ _ _ _) ?_)
    refine then_rest (rest_end (by decide) ?_)
    go_wp2
    have hz := setRow_heap _ w.heap.size _ #[.int .i64 c.k, .int .i64 c.n, .string c.s, .slice none 0 0] _ _ HN4.out
    refine bodyPost_ret (v := .tuple #[.agg #[.int .i64 c.k, .int .i64 c.n, .string c.s, .slice none 0 0], .slice q4 c.args.length k4]) (Push.results_cell_tmp Try.results38 _ _ w.heap.size _ _ _ _ _ rfl (by simp) hz Try.underlying33 rfl (by kernel_rfl)) rfl ⟨.slice q4 c.args.length k4, ?_, ?_, below_setRow HB4.out (Nat.le_refl _) _⟩
    · rw [HSH.out]; rfl
    · exact HO4.out.move (fun b hb _ => by have := hb.2; omega) fun b hb _ => setRow_other _ _ _ _ (by have := hb.2; omega)
end Go.Proofs.Ytoklbeogmcdgaaa.Tms
