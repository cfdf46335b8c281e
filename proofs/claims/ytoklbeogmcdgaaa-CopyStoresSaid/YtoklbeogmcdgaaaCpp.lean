
/-
  Copy's function literal, walked: what was got, numbered, is put into the other store.
-/
import Derived.Test.YtoklbeogmcdgaaaCop
import Derived.Test.YtoklbeogmcdgaaaNur
import Derived.Test.YtoklbeogmcdgaaaSlb
namespace Go.Proofs.Ytoklbeogmcdgaaa.Tms
open Go Go.RowKit Go.Proofs.Ytoklbeogmcdgaaa.Reg Go.Proofs.Ytoklbeogmcdgaaa.Rws Go.Proofs.Ytoklbeogmcdgaaa.Maps
set_option linter.unusedVariables false
set_option linter.unusedSimpArgs false

/-- all but one row of the law's own stays -/
structure StepX (D : Nat → Prop) (w : World) (D' : Nat → Prop) (w' : World) (X : Nat → Prop) : Prop where
  size : w.heap.size ≤ w'.heap.size
  blk : ∀ b, Free D w b → ¬ X b → Free D' w' b ∧ w'.heap[b]? = w.heap[b]?
set_option maxRecDepth 100000 in
set_option maxHeartbeats 4000000 in
theorem cp_put {w0 w : World} {p : Nat} {S : Sto} {D : Nat → Prop} (h : Law8 w0 p S D w) (hI : Inv S) {T : Tm} (hm : MayPut S [] (numT T)) (hsz : T.size ≤ 2000) (q : Option Addr) (c bx cl : Nat) (n0 : Int)
    (hT : IsSl w (fun b => ¬ D b) (.slice q 1 c) [T]) (hbx : RowF D w bx (.cells #[.pointer (some ⟨p, 0, none⟩)] 25 (0, 0))) (hcl : RowF D w cl (.cells #[.int .i64 n0] 3 (0, 0))) (h0 : w0.heap.size ≤ cl) :
    Calls Try.prog 82 #[.slice q 1 c, .pointer (some ⟨bx, 0, none⟩), .pointer (some ⟨cl, 0, none⟩)] w fun e w' => e = .returned (.int .i64 0) ∧ ∃ D', Law8 w0 p (putS S [] (numT T)) D' w' ∧ StepX D w D' w' (fun b => b = cl) ∧ RowF D' w' cl (.cells #[.int .i64 (S.cells.length : Nat)] 3 (0, 0)) := by
  have H := Lib.hid h
  have HI := Lib.hid hI
  have HM := Lib.hid hm
  have HT := Lib.hid hT
  have HBX := Lib.hid hbx
  have HCL := Lib.hid hcl
  clear h hI hm hT hbx hcl
  go_enter Try.func82, Try.ntmps82
  go_wp2
  refine wp_region_rest (by kernel_rfl) ?_
  have hd := H.out.below (Below.refl w.heap.size w).drew
  have HW := Lib.hid hd.1
  have HTW := Lib.hid (HT.out.below (Below.refl w.heap.size w).drew)
  have HBW := Lib.hid (HBX.out.step hd.2.1)
  have HCW := Lib.hid (HCL.out.step hd.2.1)
  have HSW := Lib.hid hd.2.1
  clear hd H HT HBX HCL
  generalize w.drew = W0 at *
  obtain ⟨b, off, rfl, hPb, hat⟩ := HTW.out.at 0 (by simp)
  obtain ⟨a1, c1, x0, x1, x2, x3, hi, hlt⟩ := hat.read
  simp only [Nat.zero_mul, Nat.add_zero, List.getElem_cons_zero] at x0 x1 x2 x3 hi
  have y0 : W0.cell? ⟨bx, 0, none⟩ = some (.pointer (some ⟨p, 0, none⟩)) := cell_of_row _ _ 0 _ _ _ HBW.out.2
  have HIT := Lib.hid hi
  have hc1 : (1 : Int) ≤ maxLen := by unfold maxLen; decide
  clear hat hi
  refine rest_chain 0 5 [(false, [0, 1, 2, 3]), (true, [4])] [(false, [_, _, _, _]), (true, [_])] rfl (by kernel_rfl) (by kernel_rfl) rfl (by kernel_rfl) (by kernel_rfl) (.inr (by kernel_rfl)) ?_
  refine chain_soft ?_
  intro E hE
  go_wp2
  clear x0 x1 x2 x3 y0
  refine chain_one ?_
  intro E hE
  go_wp2_with (refine (tm_Number T _ _ _ (by omega) HIT.out).mono ?_; rintro e2 w2 ⟨v2, rfl, hi2, hb2⟩; have HI2 := Lib.hid hi2; have HB2 := Lib.hid hb2; clear hi2 hb2)
  refine ⟨HB2.out, ?_⟩
  refine chain_nil ?_
  refine rest_lineL 5 6 [_] rfl (by kernel_rfl) (by decide) (by decide) (by kernel_rfl) ?_
  have h2 := HW.out.below HB2.out
  have HL2 := Lib.hid h2.1
  have HB2' := Lib.hid (HBW.out.step h2.2.1)
  have HC2 := Lib.hid (HCW.out.step h2.2.1)
  have HS2 := Lib.hid (HSW.out.trans h2.2.1)
  have hdl := HW.out.dl
  clear h2 HW HBW HCW HSW
  go_wp2_with fail
  refine (law_Put HL2.out HI.out HI2.out (fun b hb e => by have := hdl b e; rcases hb with hb | hb; exact hb; omega) HM.out (by rw [numT_size]; exact hsz)).mono ?_
  rintro e3 w3 ⟨rfl, D3, l3, s3⟩
  have HL3 := Lib.hid l3
  have HS3 := Lib.hid (HS2.out.trans s3)
  have HC3 := Lib.hid (HC2.out.step s3)
  clear l3 s3 HL2 HS2 HC2 HB2' HI2 HIT HTW HB2
  dsimp only
  go_wp2
  refine then_rest ?_
  refine rest_chainP (fun u => u = w3) 6 10 (.soft 6 (.soft 7 (.soft 8 (.soft 9 .nil)))) (.soft _ (.soft _ (.soft _ (.soft _ .nil)))) ⟨rfl, ⟨rfl, ⟨rfl, ⟨rfl, trivial⟩⟩⟩⟩ (by kernel_rfl) (by kernel_rfl) (by kernel_rfl) (by kernel_rfl) (.inr (by kernel_rfl)) rfl ?_
  refine chainP_soft (a1 := ?ma1) (by kernel_rfl) (by kernel_rfl) ?mh1 ?mr1
  case mh1 =>
    intro u hu E hE
    subst hu
    go_wp2
    rfl
  refine chainP_soft (a1 := ?ma2) (by kernel_rfl) (by kernel_rfl) ?mh2 ?mr2
  case mh2 =>
    intro u hu E hE
    subst hu
    go_wp2
    rfl
  refine chainP_soft (a1 := ?ma3) (by kernel_rfl) (by kernel_rfl) ?mh3 ?mr3
  case mh3 =>
    intro u hu E hE
    subst hu
    go_wp2
    rfl
  refine chainP_soft (a1 := ?ma4) (by kernel_rfl) (by kernel_rfl) ?mh4 ?mr4
  case mh4 =>
    intro u hu E hE
    subst hu
    go_wp2
    rfl
  refine chainP_nil ?_
  refine rest_lineL 10 11 [_] rfl (by kernel_rfl) (by decide) (by decide) (by kernel_rfl) ?_
  have z0 := cell_of_row w3 cl 0 _ _ _ HC3.out.2
  have z1 := frozen_of_row w3 cl 0 _ _ HC3.out.2
  have hzc : (w3.setCell ⟨cl, 0, none⟩ (.int .i64 (S.cells.length : Int))).heap.size = w3.heap.size := by simp [World.setCell]
  have hoth : ∀ b, b ≠ cl → (w3.setCell ⟨cl, 0, none⟩ (.int .i64 (S.cells.length : Int))).heap[b]? = w3.heap[b]? := fun b hb => Below.heap_setCell _ _ _ _ hb
  have hown := heap_setCell_same w3 cl 0 _ _ (.int .i64 (S.cells.length : Int)) HC3.out.2
  have hlaw : Law8 w0 p (putS S [] (numT T)) D3 (w3.setCell ⟨cl, 0, none⟩ (.int .i64 (S.cells.length : Int))) :=
    ⟨HL3.out.sto.keep (by omega) fun b hlt hb => hoth b fun e => HC3.out.1.1 (e ▸ hb), HL3.out.own, HL3.out.bel.setCell h0 _⟩
  have HOWN := Lib.hid (show RowF D3 (w3.setCell ⟨cl, 0, none⟩ (.int .i64 (S.cells.length : Int))) cl (.cells #[.int .i64 (S.cells.length : Int)] 3 (0, 0)) from ⟨⟨HC3.out.1.1, by have := HC3.out.1.2; omega⟩, by simpa using hown⟩)
  have HSX := Lib.hid (show StepX D w D3 (w3.setCell ⟨cl, 0, none⟩ (.int .i64 (S.cells.length : Int))) (fun b => b = cl) from ⟨by have := HS3.out.size; omega, fun b hb hx => ⟨⟨(HS3.out.blk b hb).1.1, by have := (HS3.out.blk b hb).1.2; omega⟩, (hoth b hx).trans (HS3.out.blk b hb).2⟩⟩)
  have HLW := Lib.hid hlaw
  clear hzc hoth hown hlaw
  go_wp2
  refine then_rest (rest_end (by decide) ?_)
  go_wp2
  go_ret
  exact ⟨rfl, D3, HLW.out, HSX.out, HOWN.out⟩
end Go.Proofs.Ytoklbeogmcdgaaa.Tms
