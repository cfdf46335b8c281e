
/-
  An argument of the type [][]Part.
-/
import Derived.Test.YtoklbeogmcdgaaaPt
import Derived.ProofKit
import Derived.OpenShut
import Derived.ShutString
import Derived.ChangeOld
import Derived.ChangeMaps5
import Derived.Deep.Slices
import Derived.Deep.Fields
import Derived.ChangeSame
namespace Go.Proofs.Ytoklbeogmcdgaaa.Tms
open Go Go.ChangeMaps Go.ChangeShapes Go.WideShapes Go.ChangeAt Go.RowKit Go.Deep
set_option linter.unusedVariables false

/-- a slice of slices of parts -/
def PsSl (w : World) (v : Value) (LL : List (List Pt)) : Prop :=
  ∃ a cap, v = .slice a LL.length cap ∧ LL.length ≤ cap ∧ cap ≤ maxLen ∧ ∀ j (h : j < LL.length), ∃ b off u, a = some ⟨b, off, none⟩ ∧ b < w.heap.size ∧ w.cell? ⟨b, off + j, none⟩ = some u ∧ PtSl w u LL[j]

section
variable {H : Type} {enc : TypeId × Value → H} {w : World} {base : Nat} {spare : Nat → Bool} {held : Bool}
set_option maxRecDepth 100000 in
theorem psSl_of {fuel : Nat} {v : Value} {x : DataW H × List MemPlace} (h : DataW.trod enc Try.prog w base spare held fuel 91 [v] = some x) : ∃ LL, PsSl w v LL := by
  rcases open_slice Try.underlying91 h with ⟨hcs, _⟩ | ⟨a, len, cap, m, n, D, Pl, hcs, _, hl, hm, hmm, _, hi⟩
  · simp only [List.cons.injEq, and_true] at hcs
    subst hcs
    exact ⟨[], none, 0, rfl, by simp, by decide, fun j hj => absurd hj (by simp)⟩
  · simp only [List.cons.injEq, and_true] at hcs
    subst hcs
    have hlm : len ≤ m := by rw [hmm]; split <;> omega
    have hC : Try.prog.cellsOf 22 = 1 := by kernel_rfl
    have each : ∀ i, i < len → ∃ L : List Pt, ∃ u, w.cell? (a.add i) = some u ∧ PtSl w u L := by
      intro i hilt
      obtain ⟨cs, hc, ht⟩ := hi i (by omega)
      obtain ⟨hl1, _, hat⟩ := World.cells?_some hc
      rw [hC] at hat hl1
      obtain ⟨u, rfl⟩ : ∃ u, cs = [u] := by
        match cs, hl1 with
        | [u], _ => exact ⟨u, rfl⟩
      obtain ⟨L, hL, _⟩ := ptSl_of ht
      have h0 := hat 0 (by omega)
      rw [Go.Deep.add_add, Nat.mul_one, Nat.add_zero] at h0
      exact ⟨L, u, h0, hL⟩
    let f : Nat → List Pt := fun i => if h : i < len then Classical.choose (each i h) else []
    have hf : ∀ i, i < len → ∃ u, w.cell? (a.add i) = some u ∧ PtSl w u (f i) := fun i hilt => by
      have := Classical.choose_spec (each i hilt)
      simp only [f, dif_pos hilt]
      exact this
    refine ⟨(List.range len).map f, some a, cap, by simp, by simpa using hl, hm, fun j hj => ?_⟩
    have hjl : j < len := by simpa using hj
    obtain ⟨b, off, spot⟩ := a
    obtain ⟨u0, h00, -⟩ := hf 0 (by omega)
    have hsp : spot = none := by simpa [Addr.add] using World.cell?_spot h00
    subst hsp
    have hg : ((List.range len).map f)[j] = f j := by simp
    rw [hg]
    obtain ⟨u, hu, hp⟩ := hf j hjl
    rw [Addr.add_lit] at hu
    exact ⟨b, off, u, rfl, World.block_lt_of_cell? _ _ hu, hu, hp⟩
end
end Go.Proofs.Ytoklbeogmcdgaaa.Tms
