
/-
  copy.Alike, walked.
-/
import Derived.Test.YtoklbeogmcdgaaaCop
import Derived.Test.YtoklbeogmcdgaaaSlb
import Derived.Test.YtoklbeogmcdgaaaNumP
namespace Go.Proofs.Ytoklbeogmcdgaaa.Tms
open Go Go.RowKit Go.Proofs.Ytoklbeogmcdgaaa.Reg Go.Proofs.Ytoklbeogmcdgaaa.Rws Go.Proofs.Ytoklbeogmcdgaaa.Maps
set_option linter.unusedVariables false
set_option linter.unusedSimpArgs false

set_option maxRecDepth 100000 in
set_option maxHeartbeats 4000000 in
theorem cp_alike {w0 w : World} {p : Nat} {S : Sto} {D : Nat → Prop} (h : Law8 w0 p S D w) {T U : Tm} (hsT : T.size ≤ 20000) (hsU : U.size ≤ 20000) (q : Option Addr) (c cl : Nat) (x0 : Bool)
    (hT : IsSl w (fun b => ¬ D b) (.slice q 2 c) [T, U]) (hcl : RowF D w cl (.cells #[.bool x0] 4 (0, 0))) (h0 : w0.heap.size ≤ cl) :
    Calls Try.prog 83 #[.slice q 2 c, .pointer (some ⟨cl, 0, none⟩)] w fun e w' => e = .returned (.int .i64 0) ∧ Law8 w0 p S D w' ∧ w.heap.size ≤ w'.heap.size ∧ (∀ b, Free D w b → b ≠ cl → Free D w' b ∧ w'.heap[b]? = w.heap[b]?) ∧ RowF D w' cl (.cells #[.bool (cmpT (numT T) (numT U) == 0)] 4 (0, 0)) := by
  have H := Lib.hid h
  have HT := Lib.hid hT
  have HCL := Lib.hid hcl
  clear h hT hcl
  go_enter Try.func83, Try.ntmps83
  go_wp2
  refine wp_region_rest (by kernel_rfl) ?_
  have hd := H.out.below (Below.refl w.heap.size w).drew
  have HW := Lib.hid hd.1
  have HTW := Lib.hid (HT.out.below (Below.refl w.heap.size w).drew)
  have HCW := Lib.hid (HCL.out.step hd.2.1)
  have HSW := Lib.hid hd.2.1
  clear hd H HT HCL
  generalize w.drew = W0 at *
  obtain ⟨b, off, rfl, hPb, hat⟩ := HTW.out.at 0 (by simp)
  obtain ⟨b', off', e', hPb', hat'⟩ := HTW.out.at 1 (by simp)
  obtain ⟨rfl, rfl⟩ : b = b' ∧ off = off' := by simpa using e'
  obtain ⟨a1, c1, x0, x1, x2, x3, hi, hlt⟩ := hat.read
  obtain ⟨a2, c2, y0, y1, y2, y3, hj, hlt'⟩ := hat'.read
  simp only [Nat.zero_mul, Nat.one_mul, Nat.add_zero, List.getElem_cons_zero, List.getElem_cons_succ] at x0 x1 x2 x3 hi y0 y1 y2 y3 hj
  have HIT := Lib.hid hi
  have HIU := Lib.hid hj
  have HA2 := Lib.hid hat'
  clear hat hi hj hat' e'
  have hc2 : (2 : Int) ≤ maxLen := by unfold maxLen; decide
  refine rest_chain 0 7 [(false, [0, 1, 2, 4, 5, 6]), (true, [3])] [(false, [_, _, _, _, _, _]), (true, [_])] rfl (by kernel_rfl) (by kernel_rfl) rfl (by kernel_rfl) (by kernel_rfl) (.inr (by kernel_rfl)) ?_
  refine chain_soft ?_
  intro E hE
  go_wp2
  clear x0 x1 x2 x3 y0 y1 y2 y3
  refine chain_one ?_
  intro E hE
  go_wp2_with (refine (tm_Number T _ _ _ (by omega) HIT.out).mono ?_; rintro e2 w2 ⟨v2, rfl, hi2, hb2⟩; have HI2 := Lib.hid hi2; have HB2 := Lib.hid hb2; clear hi2 hb2)
  refine ⟨HB2.out, ?_⟩
  refine chain_nil ?_
  refine rest_lineL 7 11 [_, _, _, _] rfl (by kernel_rfl) (by decide) (by decide) (by kernel_rfl) ?_
  go_wp2_with fail
  refine (tm_Number U _ _ _ (by omega) (HIU.out.below HB2.out)).mono ?_
  rintro e3 w3 ⟨v3, rfl, hi3, hb3⟩
  have HI3 := Lib.hid hi3
  have HB3 := Lib.hid (HB2.out.trans (hb3.mono HB2.out.size))
  have HJ3 := Lib.hid (HI2.out.below hb3)
  clear hi3 hb3 HI2 HB2
  go_wp2_with fail
  refine (tm_Compare (numT T) (numT U) _ _ _ _ _ (by rw [numT_size]; omega) (by rw [numT_size]; omega) HJ3.out HI3.out).mono ?_
  rintro e4 w4 ⟨rfl, hb4⟩
  have hb := HB3.out.trans (hb4.mono HB3.out.size)
  have h4 := HW.out.below hb
  have HS4 := Lib.hid (HSW.out.trans h4.2.1)
  have HC4 := Lib.hid (HCW.out.step h4.2.1)
  have HL4 := Lib.hid h4.1
  clear hb4 hb h4 HB3 HJ3 HI3 HIT HIU HA2 HTW HW HCW HSW
  have z0 := cell_of_row w4 cl 0 _ _ _ HC4.out.2
  have z1 := frozen_of_row w4 cl 0 _ _ HC4.out.2
  obtain ⟨r, hr⟩ : ∃ r, r = (cmpT (numT T) (numT U) == 0) := ⟨_, rfl⟩
  have hzc : (w4.setCell ⟨cl, 0, none⟩ (.bool r)).heap.size = w4.heap.size := by simp [World.setCell]
  have hoth : ∀ b, b ≠ cl → (w4.setCell ⟨cl, 0, none⟩ (.bool r)).heap[b]? = w4.heap[b]? := fun b hb => Below.heap_setCell _ _ _ _ hb
  have hown := heap_setCell_same w4 cl 0 _ _ (.bool r) HC4.out.2
  have hlaw : Law8 w0 p S D (w4.setCell ⟨cl, 0, none⟩ (.bool r)) :=
    ⟨HL4.out.sto.keep (by omega) fun b hlt hb => hoth b fun e => HC4.out.1.1 (e ▸ hb), HL4.out.own, HL4.out.bel.setCell h0 _⟩
  have HOWN := Lib.hid (show RowF D (w4.setCell ⟨cl, 0, none⟩ (.bool r)) cl (.cells #[.bool r] 4 (0, 0)) from ⟨⟨HC4.out.1.1, by have := HC4.out.1.2; omega⟩, by simpa using hown⟩)
  have HSX : Hid (∀ b, Free D w b → b ≠ cl → Free D (w4.setCell ⟨cl, 0, none⟩ (.bool r)) b ∧ (w4.setCell ⟨cl, 0, none⟩ (.bool r)).heap[b]? = w.heap[b]?) := Lib.hid fun b hb hx => ⟨⟨(HS4.out.blk b hb).1.1, by have := (HS4.out.blk b hb).1.2; omega⟩, (hoth b hx).trans (HS4.out.blk b hb).2⟩
  have HLW := Lib.hid hlaw
  have hz4 := HS4.out.size
  rw [hr] at HOWN HSX HLW hzc
  clear hoth hown hlaw hr r
  go_wp2
  refine then_rest (rest_end (by decide) ?_)
  go_wp2
  go_ret
  exact ⟨rfl, HLW.out, by omega, HSX.out, HOWN.out⟩
/-- two numbers, as a slice that the call makes -/
theorem two_ints (w : World) (m n : Int) (T : TypeId) : IntSl (w.alloc (.cells #[.int .i64 m, .int .i64 n] T (0, 0))) (fun b => w.heap.size ≤ b) (.slice (some ⟨w.heap.size, 0, none⟩) 2 2) [m, n] := by
  have hr := heap_alloc_new w (.cells #[.int .i64 m, .int .i64 n] T (0, 0))
  refine ⟨_, _, rfl, by simp, by decide, fun i hi => ⟨_, _, rfl, Nat.le_refl _, by simp, ?_⟩⟩
  match i, hi with
  | 0, _ => exact cell_of_row _ _ 0 _ _ _ hr
  | 1, _ => exact cell_of_row _ _ 1 _ _ _ hr
set_option maxRecDepth 100000 in
set_option maxHeartbeats 4000000 in
theorem cp_Alike {w0 w : World} {p : Nat} {S : Sto} {D : Nat → Prop} (h : Law8 w0 p S D w) (hI : Inv S) (a b : Nat) (ha : a < S.cells.length) (hb : b < S.cells.length) (ea : getE S a = 0) (eb : getE S b = 0) (sa : (getT S a).size ≤ 20000) (sb : (getT S b).size ≤ 20000) :
    Calls Try.prog 44 #[.pointer (some ⟨p, 0, none⟩), .int .i64 a, .int .i64 b] w fun e w' => e = .returned (.tuple #[.bool (cmpT (numT (getT S a)) (numT (getT S b)) == 0), .int .i64 0]) ∧ Law8 w0 p S D w' ∧ Step D w D w' := by
  have H := Lib.hid h
  have HI := Lib.hid hI
  have HA := Lib.hid (heap_alloc_new w (.cells #[.bool false] 4 (0, 0)))
  have HBA := Lib.hid (below_new w (.cells #[.bool false] 4 (0, 0)))
  have hzA : (w.alloc (.cells #[.bool false] 4 (0, 0))).heap.size = w.heap.size + 1 := by simp
  have hlt : ∀ y ∈ [a, b], y < S.cells.length := by
    intro y hy
    simp only [List.mem_cons, List.not_mem_nil, or_false] at hy
    rcases hy with rfl | rfl
    · exact ha
    · exact hb
  have hok : getsE S [a, b] = 0 := getsE_ok _ fun y hy => by
    simp only [List.mem_cons, List.not_mem_nil, or_false] at hy
    rcases hy with rfl | rfl
    · exact ea
    · exact eb
  have HLT := Lib.hid hlt
  have HOK := Lib.hid hok
  clear h hI ea eb hlt hok
  go_enter Try.func44, Try.ntmps44
  go_upto_region 2 with fail
  obtain ⟨w1, hw1⟩ : ∃ w1, w1 = w.alloc (.cells #[.bool false] 4 (0, 0)) := ⟨_, rfl⟩
  rw [← hw1] at HA HBA hzA ⊢
  clear hw1
  have HBC := Lib.hid (below_new w1 (.cells #[.int .i64 a, .int .i64 b] 3 (0, 0)))
  have HSL := Lib.hid (two_ints w1 a b 3)
  have hzC : (w1.alloc (.cells #[.int .i64 a, .int .i64 b] 3 (0, 0))).heap.size = w.heap.size + 2 := by simp; omega
  rw [hzA] at HSL
  go_wp2_with fail
  obtain ⟨w3, hw3⟩ : ∃ w3, w3 = w1.alloc (.cells #[.int .i64 a, .int .i64 b] 3 (0, 0)) := ⟨_, rfl⟩
  rw [← hw3] at HBC HSL hzC ⊢
  clear hw3
  have hb3 : Below w.heap.size w w3 := HBA.out.trans (HBC.out.mono (by omega))
  have h3 := H.out.below hb3
  have hr1 : w3.heap[w.heap.size]? = some (.cells #[.bool false] 4 (0, 0)) := (HBC.out.block _ (by omega)).trans HA.out
  have hdl := H.out.dl
  have hw0 := H.out.bel.size
  have hsl : IntSl w3 (Free D w3) (.slice (some ⟨w.heap.size + 1, 0, none⟩) 2 2) ([a, b].map fun (y : Nat) => (y : Int)) := HSL.out.low.imp (Nat.le_refl _) (fun b hb _ => ⟨fun e => by have := hdl b e; have := hb.1; omega, hb.2⟩) fun _ _ _ => rfl
  have hq := cp_of2 h3.1 HI.out [a, b] HLT.out (by simp) _ hsl (.pointer (some ⟨w.heap.size, 0, none⟩)) 0
    (fun W => Law8 w0 p S D W ∧ Step D w D W ∧ RowF D W w.heap.size (.cells #[.bool (cmpT (numT (getT S a)) (numT (getT S b)) == 0)] 4 (0, 0)))
    (fun hne => absurd HOK.out hne)
    (fun _ q c W lW sW slW => by
      have f1 : RowF D W w.heap.size (.cells #[.bool false] 4 (0, 0)) := ⟨⟨fun e => by have := hdl _ e; omega, by have := sW.size; omega⟩, (sW.blk _ ⟨fun e => by have := hdl _ e; omega, by omega⟩).2.trans hr1⟩
      refine (cp_alike lW sa sb q c w.heap.size false (slW.imp (fun b hb => hb.1.1) fun _ _ _ => rfl) f1 (by omega)).mono ?_
      rintro e w' ⟨rfl, l', z', k', r'⟩
      exact ⟨rfl, l', ⟨by have := sW.size; omega, fun b hb => by
        have a1 := (h3.2.1.trans sW).blk b hb
        have a2 := k' b a1.1 (by have := hb.2; omega)
        exact ⟨a2.1, a2.2.trans a1.2⟩⟩, r'⟩)
  refine hq.mono ?_
  rintro e4 w4 ⟨rfl, h4, s4, hr4⟩
  have z4 : w4.cell? ⟨w.heap.size, 0, none⟩ = some (.bool (cmpT (numT (getT S a)) (numT (getT S b)) == 0)) := cell_of_row _ _ 0 _ _ _ hr4.2
  have HF := Lib.hid h4
  have HS := Lib.hid s4
  clear hq h4 s4 hr4 hsl hr1 hb3 h3
  go_wp2
  go_ret2
  exact ⟨rfl, HF.out, HS.out⟩
end Go.Proofs.Ytoklbeogmcdgaaa.Tms
