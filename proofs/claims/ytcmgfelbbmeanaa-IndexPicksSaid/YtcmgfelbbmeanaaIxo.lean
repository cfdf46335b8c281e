
/-
  Layer 20's arguments: []Code, Asked.
-/
import Derived.Test.YtcmgfelbbmeanaaCodO
import Derived.Test.YtcmgfelbbmeanaaIxw
import Derived.Test.YtcmgfelbbmeanaaPt
import Derived.ProofKit
import Derived.OpenShut
import Derived.ShutString
import Derived.ChangeOld
import Derived.ChangeMaps5
import Derived.Deep.Slices
import Derived.Deep.Fields
import Derived.ChangeSame
namespace Go.Proofs.Ytcmgfelbbmeanaa.Tms
open Go Go.ChangeMaps Go.ChangeShapes Go.WideShapes Go.ChangeAt Go.RowKit Go.Deep Go.Proofs.Ytcmgfelbbmeanaa.Cod
set_option linter.unusedVariables false
set_option linter.unusedSimpArgs false

section
variable {H : Type} {enc : TypeId × Value → H} {w : World} {base : Nat} {spare : Nat → Bool} {held : Bool}

set_option maxRecDepth 100000 in
theorem code_of {fuel : Nat} {cs : List Value} {x : DataW H × List MemPlace} (h : DataW.trod enc Try.prog w base spare held fuel 28 cs = some x) :
    ∃ (c : Cod) (vs : Value), cs = [.string c.name, .int .i64 c.args, .int .i64 c.slots, .int .i64 c.body, vs] ∧ InsSl w vs c.l := by
  obtain ⟨hl, hf⟩ := field_of Try.underlying28 (by kernel_rfl) (by kernel_rfl) h
  obtain ⟨v0, n0, y0, e0, t0⟩ := hf 0 _ rfl
  obtain ⟨v1, n1, y1, e1, t1⟩ := hf 1 _ rfl
  obtain ⟨v2, n2, y2, e2, t2⟩ := hf 2 _ rfl
  obtain ⟨v3, n3, y3, e3, t3⟩ := hf 3 _ rfl
  obtain ⟨v4, n4, y4, e4, t4⟩ := hf 4 _ rfl
  obtain ⟨i0, a0, _, _⟩ := DataW.trod_string Try.underlying9 t0
  obtain ⟨i1, a1, _, _⟩ := DataW.trod_int Try.underlying3 t1
  obtain ⟨i2, a2, _, _⟩ := DataW.trod_int Try.underlying3 t2
  obtain ⟨i3, a3, _, _⟩ := DataW.trod_int Try.underlying3 t3
  obtain ⟨L, hL⟩ := insSl_of t4
  simp only [List.cons.injEq, and_true] at a0 a1 a2 a3
  subst a0 a1 a2 a3
  exact ⟨⟨i0, i1, i2, i3, L⟩, v4, list5 hl e0 e1 e2 e3 e4, hL⟩
set_option maxRecDepth 100000 in
theorem cosSl_of {fuel : Nat} {v : Value} {x : DataW H × List MemPlace} (h : DataW.trod enc Try.prog w base spare held fuel 22 [v] = some x) : ∃ l, CosSl w v l := by
  rcases open_slice Try.underlying22 h with ⟨hcs, _⟩ | ⟨a, len, cap, m, n, D, Pl, hcs, _, hl, hm, hmm, _, hi⟩
  · simp only [List.cons.injEq, and_true] at hcs
    subst hcs
    exact ⟨[], none, 0, rfl, by simp, by decide, fun j hj => absurd hj (by simp)⟩
  · simp only [List.cons.injEq, and_true] at hcs
    subst hcs
    have hlm : len ≤ m := by rw [hmm]; split <;> omega
    have hC : Try.prog.cellsOf 28 = 5 := by kernel_rfl
    have each : ∀ i, i < len → ∃ (o : Cod) (u : Value), (∀ q, q < 5 → w.cell? (a.add (i * 5 + q)) = [Value.string o.name, .int .i64 o.args, .int .i64 o.slots, .int .i64 o.body, u][q]?) ∧ InsSl w u o.l := by
      intro i hilt
      obtain ⟨cs, hc, ht⟩ := hi i (by omega)
      obtain ⟨o, u, rfl, hL⟩ := code_of ht
      obtain ⟨_, _, hat⟩ := World.cells?_some hc
      rw [hC] at hat
      exact ⟨o, u, fun q hq => by rw [← Go.Deep.add_add]; exact hat q hq, hL⟩
    let f : Nat → Cod := fun i => if h : i < len then Classical.choose (each i h) else ⟨⟨#[]⟩, 0, 0, 0, []⟩
    have hf : ∀ i, i < len → ∃ u : Value, (∀ q, q < 5 → w.cell? (a.add (i * 5 + q)) = [Value.string (f i).name, .int .i64 (f i).args, .int .i64 (f i).slots, .int .i64 (f i).body, u][q]?) ∧ InsSl w u (f i).l := fun i hilt => by
      have := Classical.choose_spec (each i hilt)
      simp only [f, dif_pos hilt]
      exact this
    refine ⟨(List.range len).map f, some a, cap, by simp, by simpa using hl, hm, fun j hj => ?_⟩
    have hjl : j < len := by simpa using hj
    obtain ⟨b, off, spot⟩ := a
    obtain ⟨u, hq, hp⟩ := hf j hjl
    obtain ⟨u0, hq0, -⟩ := hf 0 (by omega)
    have h00 : w.cell? ((⟨b, off, spot⟩ : Addr).add 0) = some (.string (f 0).name) := hq0 0 (by omega)
    have hsp : spot = none := by simpa [Addr.add] using World.cell?_spot h00
    subst hsp
    have hg : ((List.range len).map f)[j] = f j := by simp
    rw [hg]
    have key : ∀ q, q < 5 → w.cell? ⟨b, off + j * 5 + q, none⟩ = [Value.string (f j).name, .int .i64 (f j).args, .int .i64 (f j).slots, .int .i64 (f j).body, u][q]? := fun q hq' => by
      have := hq q hq'
      rw [Addr.add_lit, ← Nat.add_assoc] at this
      exact this
    exact ⟨b, off, u, rfl, World.block_lt_of_cell? _ _ ((key 0 (by omega)).trans rfl), hp, key 0 (by omega), key 1 (by omega), key 2 (by omega), key 3 (by omega), key 4 (by omega)⟩
set_option maxRecDepth 100000 in
/-- an argument of the type []Code -/
theorem cos_of {r : Reach} {b0 : Nat} {v : Value} {d : DataW H} {p : List MemPlace} (hv : Value.okWide Try.prog w r b0 22 v) (h : DataW.Trod enc Try.prog w base spare held 22 v d p) : ∃ l, CosSl w v l := by
  obtain ⟨a, len, cap, rfl⟩ := okWide_slice Try.underlying22 hv
  obtain ⟨fuel, hf⟩ := h
  exact cosSl_of hf
end
end Go.Proofs.Ytcmgfelbbmeanaa.Tms
