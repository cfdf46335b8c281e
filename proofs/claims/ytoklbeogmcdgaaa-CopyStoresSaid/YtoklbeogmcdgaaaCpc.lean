
/-
  copy.Copy from one store to another, walked.
-/
import Derived.Test.YtoklbeogmcdgaaaCpp
import Derived.Test.YtoklbeogmcdgaaaTwo
namespace Go.Proofs.Ytoklbeogmcdgaaa.Tms
open Go Go.RowKit Go.Proofs.Ytoklbeogmcdgaaa.Reg Go.Proofs.Ytoklbeogmcdgaaa.Rws Go.Proofs.Ytoklbeogmcdgaaa.Maps
set_option linter.unusedVariables false
set_option linter.unusedSimpArgs false

/-- Copy leaves: the other store with the copy; all that is neither's -/
def CpDid (w0 : World) (p1 : Nat) (S1 : Sto) (D1 : Nat → Prop) (p2 : Nat) (S2' : Sto) (D2 : Nat → Prop) (w w' : World) : Prop :=
  ∃ D2', TwoAt w0 p1 S1 D1 p2 S2' D2' w' ∧ w.heap.size ≤ w'.heap.size ∧ ∀ b, Free2 D1 D2 w b → Free2 D1 D2' w' b ∧ w'.heap[b]? = w.heap[b]?
set_option maxRecDepth 100000 in
set_option maxHeartbeats 4000000 in
theorem cp_Copy {w0 w : World} {p1 p2 : Nat} {S1 S2 : Sto} {D1 D2 : Nat → Prop} (h : TwoAt w0 p1 S1 D1 p2 S2 D2 w) (hI1 : Inv S1) (hI2 : Inv S2) (x : Nat) (hx : x < S1.cells.length) (he : getE S1 x = 0) (hm : MayPut S2 [] (numT (getT S1 x))) (hsz : (getT S1 x).size ≤ 2000) :
    Calls Try.prog 43 #[.pointer (some ⟨p1, 0, none⟩), .int .i64 x, .pointer (some ⟨p2, 0, none⟩)] w fun e w' => e = .returned (.tuple #[.int .i64 (S2.cells.length : Nat), .int .i64 0]) ∧ CpDid w0 p1 S1 D1 p2 (putS S2 [] (numT (getT S1 x))) D2 w w' := by
  have H := Lib.hid h
  have HI1 := Lib.hid hI1
  have HI2 := Lib.hid hI2
  have HM := Lib.hid hm
  have HE := Lib.hid he
  have hrA := heap_alloc_new w (.cells #[.pointer (some ⟨p2, 0, none⟩)] 25 (0, 0))
  have hbA := below_new w (.cells #[.pointer (some ⟨p2, 0, none⟩)] 25 (0, 0))
  have HRA := Lib.hid hrA
  have HBA := Lib.hid hbA
  clear h hI1 hI2 hm he hrA hbA
  go_enter Try.func43, Try.ntmps43
  go_upto_region 1 with fail
  have hzA : (w.alloc (.cells #[.pointer (some ⟨p2, 0, none⟩)] 25 (0, 0))).heap.size = w.heap.size + 1 := by simp
  obtain ⟨w1, hw1⟩ : ∃ w1, w1 = w.alloc (.cells #[.pointer (some ⟨p2, 0, none⟩)] 25 (0, 0)) := ⟨_, rfl⟩
  rw [← hw1] at HRA HBA hzA ⊢
  clear hw1
  have y0 : w1.cell? ⟨w.heap.size, 0, none⟩ = some (.pointer (some ⟨p2, 0, none⟩)) := cell_of_row _ _ 0 _ _ _ HRA.out
  go_upto_region 4 with fail
  have HRB := Lib.hid (heap_alloc_new w1 (.cells #[.int .i64 0] 3 (0, 0)))
  have HBB := Lib.hid (below_new w1 (.cells #[.int .i64 0] 3 (0, 0)))
  have hzB : (w1.alloc (.cells #[.int .i64 0] 3 (0, 0))).heap.size = w.heap.size + 2 := by simp; omega
  rw [hzA] at HRB
  obtain ⟨w2, hw2⟩ : ∃ w2, w2 = w1.alloc (.cells #[.int .i64 0] 3 (0, 0)) := ⟨_, rfl⟩
  rw [← hw2] at HRB HBB hzB ⊢
  have HRC := Lib.hid (heap_alloc_new w2 (.cells #[.int .i64 x] 3 (0, 0)))
  have HBC := Lib.hid (below_new w2 (.cells #[.int .i64 x] 3 (0, 0)))
  have HSL := Lib.hid (one_int w2 w2.heap.size (Nat.le_refl _) x 3)
  have hzC : (w2.alloc (.cells #[.int .i64 x] 3 (0, 0))).heap.size = w.heap.size + 3 := by simp; omega
  rw [hzB] at HRC HSL
  clear hw2 y0
  go_wp2_with fail
  obtain ⟨w3, hw3⟩ : ∃ w3, w3 = w2.alloc (.cells #[.int .i64 x] 3 (0, 0)) := ⟨_, rfl⟩
  rw [← hw3] at HRC HBC HSL hzC ⊢
  clear hw3
  have hb3 : Below w.heap.size w w3 := (HBA.out.trans (HBB.out.mono (by omega))).trans (HBC.out.mono (by omega))
  have h3 := H.out.below hb3
  have hr0 : w3.heap[w.heap.size]? = some (.cells #[.pointer (some ⟨p2, 0, none⟩)] 25 (0, 0)) := (HBC.out.block _ (by omega)).trans ((HBB.out.block _ (by omega)).trans HRA.out)
  have hr1 : w3.heap[w.heap.size + 1]? = some (.cells #[.int .i64 0] 3 (0, 0)) := (HBC.out.block _ (by omega)).trans HRB.out
  have hd2 := H.out.l2.dl
  have hd1 := H.out.l1.dl
  have hw0 := H.out.l1.bel.size
  have hsl : IntSl w3 (Free D1 w3) (.slice (some ⟨w.heap.size + 2, 0, none⟩) 1 1) ([x].map fun (y : Nat) => (y : Int)) := HSL.out.low.imp (Nat.le_refl _) (fun b hb _ => ⟨fun e => by have := hd1 b e; have := hb.1; omega, hb.2⟩) fun _ _ _ => rfl
  have H3 := Lib.hid h3
  have hq := cp_of1 H3.out.l1 HI1.out [x] (fun y hy => by rw [List.mem_singleton.1 hy]; exact hx) (by simp) _ hsl (.pointer (some ⟨w.heap.size, 0, none⟩)) (.pointer (some ⟨w.heap.size + 1, 0, none⟩)) 0
    (fun W => ∃ D2', TwoAt w0 p1 S1 D1 p2 (putS S2 [] (numT (getT S1 x))) D2' W ∧ w3.heap.size ≤ W.heap.size ∧ (∀ b, Free2 D1 D2 w3 b → b ≠ w.heap.size + 1 → Free2 D1 D2' W b ∧ W.heap[b]? = w3.heap[b]?) ∧ RowF D2' W (w.heap.size + 1) (.cells #[.int .i64 (S2.cells.length : Nat)] 3 (0, 0)))
    (fun hne => absurd (getsE_ok [x] fun y hy => by rw [List.mem_singleton.1 hy]; exact HE.out) hne)
    (fun _ q c W lW sW slW => by
      have hW := H3.out.step (X := fun _ => False) lW sW.size (fun b hb _ => sW.blk b hb) fun b _ e => e
      have f0 : RowF D2 W w.heap.size (.cells #[.pointer (some ⟨p2, 0, none⟩)] 25 (0, 0)) := ⟨⟨fun e => by have := hd2 _ e; omega, by have := sW.size; omega⟩, (sW.blk _ ⟨fun e => by have := hd1 _ e; omega, by omega⟩).2.trans hr0⟩
      have f1 : RowF D2 W (w.heap.size + 1) (.cells #[.int .i64 0] 3 (0, 0)) := ⟨⟨fun e => by have := hd2 _ e; omega, by have := sW.size; omega⟩, (sW.blk _ ⟨fun e => by have := hd1 _ e; omega, by omega⟩).2.trans hr1⟩
      refine (cp_put hW.l2 HI2.out HM.out hsz q c w.heap.size (w.heap.size + 1) 0 (slW.imp (fun b hb e => by have := hd2 b e; have := hb.2; omega) fun _ _ _ => rfl) f0 f1 (by omega)).mono ?_
      rintro e w' ⟨rfl, D2', l', s', r'⟩
      have h' := (hW.symm.step l' s'.size s'.blk fun b hb e => by have := hd1 b hb; omega).symm
      refine ⟨rfl, D2', h', Nat.le_trans sW.size s'.size, fun b hb hne => ?_, r'⟩
      have a1 := sW.blk b hb.1
      have a2 := s'.blk b ⟨hb.2, a1.1.2⟩ hne
      exact ⟨⟨⟨hb.1.1, a2.1.2⟩, a2.1.1⟩, a2.2.trans a1.2⟩)
  refine hq.mono ?_
  rintro e4 w4 ⟨rfl, D2', h4, hz4, hk4, hr4⟩
  have z4 : w4.cell? ⟨w.heap.size + 1, 0, none⟩ = some (.int .i64 (S2.cells.length : Nat)) := cell_of_row _ _ 0 _ _ _ hr4.2
  have hfin : CpDid w0 p1 S1 D1 p2 (putS S2 [] (numT (getT S1 x))) D2 w w4 := ⟨D2', h4, by omega, fun b hb => by
    have hlt := hb.1.2
    have a1 := hk4 b ⟨⟨hb.1.1, by omega⟩, hb.2⟩ (by omega)
    exact ⟨a1.1, a1.2.trans (hb3.block b hlt)⟩⟩
  have HF := Lib.hid hfin
  clear hq hfin hk4 hr4 h4 hsl hr0 hr1 hb3 h3
  go_wp2
  go_ret2
  exact ⟨rfl, HF.out⟩
end Go.Proofs.Ytoklbeogmcdgaaa.Tms
