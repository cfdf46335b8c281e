
/-
  Layer 8's store, plain: the document's example; what is put without told variables is the same tree, its variables renamed.
  The law's first test: prolixlaw08.alive answers true.
-/
import Derived.Test.YtoklbeogmcdgaaaPlt
import Derived.Test.YtoklbeogmcdgaaaGow
namespace Go.Proofs.Ytoklbeogmcdgaaa.Tms
open Go Go.RowKit Go.Proofs.Ytoklbeogmcdgaaa.Reg Go.Proofs.Ytoklbeogmcdgaaa.Rws Go.Proofs.Ytoklbeogmcdgaaa.Maps
set_option linter.unusedVariables false
set_option linter.unusedSimpArgs false

/-! ### The document's example -/
def ex0 : Sto := ⟨100, [], []⟩
theorem ex0_inv : Inv ex0 := Inv.new 100 (by decide) (by decide)
end Go.Proofs.Ytoklbeogmcdgaaa.Tms
namespace Go.Proofs.Ytoklbeogmcdgaaa.Tms
open Go Go.RowKit Go.Proofs.Ytoklbeogmcdgaaa.Reg Go.Proofs.Ytoklbeogmcdgaaa.Rws Go.Proofs.Ytoklbeogmcdgaaa.Maps
set_option linter.unusedVariables false
set_option linter.unusedSimpArgs false

theorem put_nil {S S' : Sto} {D : Nat → Prop} {p : Nat} {t : Tm} {x : Int} {w w' : World} {e : Ending} (h : PutOk S D p none [] t w e w') (hS : putS S [] t = S' ∧ (putR S [] t).1 = x) :
    e = .returned (.tuple #[.int .i64 x, .int .i64 0]) ∧ StoDid w w' D p S' := by
  obtain ⟨he, D', h1, h2, h3, -⟩ := h
  rw [hS.2] at he
  rw [hS.1] at h1
  exact ⟨he, D', h1, ⟨h2.os, h2.tape, h2.output, h2.size, fun b hlt hb => h2.block b hlt fun e => e.elim hb fun e => by cases e⟩, h3⟩
/-- the store of the law's own: all its blocks are from B on -/
def Own8 (w : World) (B p : Nat) (S : Sto) : Prop := ∃ D, StoAt w D p S ∧ ∀ b, D b → B ≤ b
theorem Own8.did {w0 w w' : World} {B p : Nat} {D : Nat → Prop} {S' : Sto} (hD : ∀ b, D b → B ≤ b) (hb : Below B w0 w) (hB : B ≤ w.heap.size) (h : StoDid w w' D p S') : Own8 w' B p S' ∧ Below B w0 w' := by
  obtain ⟨D', h1, h2, h3⟩ := h
  refine ⟨⟨D', h1, fun b hb => ?_⟩, ⟨h2.os.trans hb.os, h2.tape.trans hb.tape, h2.output.trans hb.output, Nat.le_trans hb.size h2.size, fun b hlt => (h2.block b (by omega) fun e => by have := hD b e; omega).trans (hb.block b hlt)⟩⟩
  rcases h3 b hb with h | h
  · exact hD b h
  · omega
end Go.Proofs.Ytoklbeogmcdgaaa.Tms
