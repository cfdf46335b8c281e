
/-
  Layer 20's argument Asked.
-/
import Derived.Test.YtcmgfelbbmeanaaIxo
import Derived.Deep.Fields
namespace Go.Proofs.Ytcmgfelbbmeanaa.Tms
open Go Go.ChangeMaps Go.ChangeShapes Go.WideShapes Go.ChangeAt Go.RowKit Go.Deep Go.Proofs.Ytcmgfelbbmeanaa.Cod
set_option linter.unusedVariables false
set_option linter.unusedSimpArgs false

section
variable {H : Type} {enc : TypeId × Value → H} {w : World} {base : Nat} {spare : Nat → Bool} {held : Bool}

set_option maxRecDepth 100000 in
/-- an argument of the type Asked -/
theorem asked_of {r : Reach} {b0 : Nat} {v : Value} {d : DataW H} {p : List MemPlace} (hv : Value.okWide Try.prog w r b0 24 v) (h : DataW.Trod enc Try.prog w base spare held 24 v d p) :
    ∃ (l : List Cod) (k g n : Int) (s : ByteArray) (u : Value), v = .agg #[u, .int .i64 k, .int .i64 g, .int .i64 n, .string s] ∧ CosSl w u l := by
  obtain ⟨cs, rfl, hsz⟩ := okWide_struct Try.underlying24 hv
  obtain ⟨fuel, hf0⟩ := h
  obtain ⟨hl, hf⟩ := field_of Try.underlying24 (by kernel_rfl) (by kernel_rfl) hf0
  obtain ⟨v0, n0, y0, e0, t0⟩ := hf 0 _ rfl
  obtain ⟨v1, n1, y1, e1, t1⟩ := hf 1 _ rfl
  obtain ⟨v2, n2, y2, e2, t2⟩ := hf 2 _ rfl
  obtain ⟨v3, n3, y3, e3, t3⟩ := hf 3 _ rfl
  obtain ⟨v4, n4, y4, e4, t4⟩ := hf 4 _ rfl
  obtain ⟨l, hL⟩ := cosSl_of t0
  obtain ⟨i1, a1, _, _⟩ := DataW.trod_int Try.underlying3 t1
  obtain ⟨i2, a2, _, _⟩ := DataW.trod_int Try.underlying3 t2
  obtain ⟨i3, a3, _, _⟩ := DataW.trod_int Try.underlying2 t3
  obtain ⟨i4, a4, _, _⟩ := DataW.trod_string Try.underlying9 t4
  simp only [List.cons.injEq, and_true] at a1 a2 a3 a4
  subst a1 a2 a3 a4
  obtain ⟨q⟩ := cs
  have : q = [v0, .int .i64 i1, .int .i64 i2, .int .i64 i3, .string i4] := list5 hl e0 e1 e2 e3 e4
  exact ⟨l, i1, i2, i3, i4, v0, by rw [this], hL⟩
end
end Go.Proofs.Ytcmgfelbbmeanaa.Tms
