
/-
  Two stores of the law's own, beside each other.
-/
import Derived.Test.YtoklbeogmcdgaaaSlb
namespace Go.Proofs.Ytoklbeogmcdgaaa.Tms
open Go Go.RowKit Go.Proofs.Ytoklbeogmcdgaaa.Reg Go.Proofs.Ytoklbeogmcdgaaa.Rws Go.Proofs.Ytoklbeogmcdgaaa.Maps
set_option linter.unusedVariables false

/-- two stores of the law's own -/
structure TwoAt (w0 : World) (p1 : Nat) (S1 : Sto) (D1 : Nat → Prop) (p2 : Nat) (S2 : Sto) (D2 : Nat → Prop) (w : World) : Prop where
  l1 : Law8 w0 p1 S1 D1 w
  l2 : Law8 w0 p2 S2 D2 w
  dis : ∀ b, D1 b → ¬ D2 b
theorem TwoAt.symm {w0 w : World} {p1 p2 : Nat} {S1 S2 : Sto} {D1 D2 : Nat → Prop} (h : TwoAt w0 p1 S1 D1 p2 S2 D2 w) : TwoAt w0 p2 S2 D2 p1 S1 D1 w := ⟨h.l2, h.l1, fun b h2 h1 => h.dis b h1 h2⟩
theorem TwoAt.below {w0 w w' : World} {p1 p2 : Nat} {S1 S2 : Sto} {D1 D2 : Nat → Prop} (h : TwoAt w0 p1 S1 D1 p2 S2 D2 w) (hb : Below w.heap.size w w') : TwoAt w0 p1 S1 D1 p2 S2 D2 w' := ⟨(h.l1.below hb).1, (h.l2.below hb).1, h.dis⟩
/-- the first store turns; X may be written, too -/
theorem TwoAt.step {w0 w w' : World} {p1 p2 : Nat} {S1 S1' S2 : Sto} {D1 D1' D2 X : Nat → Prop} (h : TwoAt w0 p1 S1 D1 p2 S2 D2 w) (hl : Law8 w0 p1 S1' D1' w') (hz : w.heap.size ≤ w'.heap.size) (hk : ∀ b, Free D1 w b → ¬ X b → Free D1' w' b ∧ w'.heap[b]? = w.heap[b]?) (hX : ∀ b, D2 b → ¬ X b) :
    TwoAt w0 p1 S1' D1' p2 S2 D2 w' := by
  have hf : ∀ b, D2 b → Free D1 w b := fun b hb => ⟨fun e => h.dis b e hb, h.l2.dl b hb⟩
  exact ⟨hl, ⟨h.l2.sto.keep hz fun b hlt hd => (hk b (hf b hd) (hX b hd)).2, h.l2.own, hl.bel⟩, fun b h1 h2 => (hk b (hf b h2) (hX b h2)).1.1 h1⟩
/-- a block beside both -/
def Free2 (D1 D2 : Nat → Prop) (w : World) (b : Nat) : Prop := Free D1 w b ∧ ¬ D2 b
theorem Free2.symm {D1 D2 : Nat → Prop} {w : World} {b : Nat} (h : Free2 D1 D2 w b) : Free2 D2 D1 w b := ⟨⟨h.2, h.1.2⟩, h.1.1⟩
/-- a new store: all that was there is beside it (as Uns's law_NewF) -/
theorem law_NewG (w0 w : World) (hb : Below w0.heap.size w0 w) (n : Int) (h1 : 1 ≤ n) (h2 : n ≤ 16777216) :
    Calls Try.prog 16 #[.int .i64 n] w fun e w' => e = .returned (.tuple #[.pointer (some ⟨w.heap.size, 0, none⟩), .int .i64 0]) ∧ ∃ D', Law8 w0 w.heap.size ⟨n, [], []⟩ D' w' ∧ Below w.heap.size w w' ∧ ∀ b, b < w.heap.size → Free D' w' b := by
  refine (sto_New n w h1 h2).mono ?_
  rintro e w' ⟨rfl, hs, hb'⟩
  exact ⟨rfl, _, ⟨hs, fun b e => by rw [e]; exact hb.size, hb.trans (hb'.mono hb.size)⟩, hb', fun b hlt => ⟨fun e => by omega, Nat.lt_of_lt_of_le hlt hb'.size⟩⟩
end Go.Proofs.Ytoklbeogmcdgaaa.Tms
