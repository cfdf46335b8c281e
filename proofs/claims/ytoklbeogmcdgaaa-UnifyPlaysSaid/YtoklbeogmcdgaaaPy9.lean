
/-
  Layer 9's argument Play.
-/
import Derived.Test.YtoklbeogmcdgaaaGr9
import Derived.Test.YtoklbeogmcdgaaaL9U
import Derived.ChangeArms
namespace Go.Proofs.Ytoklbeogmcdgaaa.Tms
open Go Go.ChangeMaps Go.ChangeShapes Go.WideShapes Go.ChangeAt Go.RowKit Go.Deep
set_option linter.unusedVariables false
set_option linter.unusedSimpArgs false

section
variable {H : Type} {enc : TypeId × Value → H} {w : World} {base : Nat} {spare : Nat → Bool} {held : Bool}
set_option maxRecDepth 100000 in
theorem prSl_of {fuel : Nat} {v : Value} {x : DataW H × List MemPlace} (h : DataW.trod enc Try.prog w base spare held fuel 80 [v] = some x) : ∃ l, PrSl w v l := by
  rcases open_slice Try.underlying80 h with ⟨hcs, _⟩ | ⟨a, len, cap, m, n, D, Pl, hcs, _, hl, hm, hmm, _, hi⟩
  · simp only [List.cons.injEq, and_true] at hcs
    subst hcs
    exact ⟨[], none, 0, rfl, by simp, by decide, fun j hj => absurd hj (by simp)⟩
  · simp only [List.cons.injEq, and_true] at hcs
    subst hcs
    have hlm : len ≤ m := by rw [hmm]; split <;> omega
    have hC : Try.prog.cellsOf 78 = 2 := by kernel_rfl
    have each : ∀ i, i < len → ∃ (o : List Pt × List Pt) (u1 u2 : Value), (∀ q, q < 2 → w.cell? (a.add (i * 2 + q)) = [u1, u2][q]?) ∧ PtSl w u1 o.1 ∧ PtSl w u2 o.2 := by
      intro i hilt
      obtain ⟨cs, hc, ht⟩ := hi i (by omega)
      obtain ⟨L, M, u1, u2, rfl, hL, hM⟩ := pr_of ht
      obtain ⟨_, _, hat⟩ := World.cells?_some hc
      rw [hC] at hat
      exact ⟨(L, M), u1, u2, fun q hq => by rw [← Go.Deep.add_add]; exact hat q hq, hL, hM⟩
    let f : Nat → List Pt × List Pt := fun i => if h : i < len then Classical.choose (each i h) else ([], [])
    have hf : ∀ i, i < len → ∃ u1 u2 : Value, (∀ q, q < 2 → w.cell? (a.add (i * 2 + q)) = [u1, u2][q]?) ∧ PtSl w u1 (f i).1 ∧ PtSl w u2 (f i).2 := fun i hilt => by
      have := Classical.choose_spec (each i hilt)
      simp only [f, dif_pos hilt]
      exact this
    refine ⟨(List.range len).map f, some a, cap, by simp, by simpa using hl, hm, fun j hj => ?_⟩
    have hjl : j < len := by simpa using hj
    obtain ⟨b, off, spot⟩ := a
    obtain ⟨u1, u2, hq, hp1, hp2⟩ := hf j hjl
    obtain ⟨x1, x2, hq0, -⟩ := hf 0 (by omega)
    have h00 : w.cell? ((⟨b, off, spot⟩ : Addr).add 0) = some x1 := hq0 0 (by omega)
    have hsp : spot = none := by simpa [Addr.add] using World.cell?_spot h00
    subst hsp
    have hg : ((List.range len).map f)[j] = f j := by simp
    rw [hg]
    have key : ∀ q, q < 2 → w.cell? ⟨b, off + j * 2 + q, none⟩ = [u1, u2][q]? := fun q hq' => by
      have := hq q hq'
      rw [Addr.add_lit, ← Nat.add_assoc] at this
      exact this
    exact ⟨b, off, u1, u2, rfl, World.block_lt_of_cell? _ _ ((key 0 (by omega)).trans rfl), key 0 (by omega), key 1 (by omega), hp1, hp2⟩
set_option maxRecDepth 100000 in
theorem blSl_of {fuel : Nat} {v : Value} {x : DataW H × List MemPlace} (h : DataW.trod enc Try.prog w base spare held fuel 85 [v] = some x) : ∃ l, BlSl w v l := by
  rcases open_slice Try.underlying85 h with ⟨hcs, _⟩ | ⟨a, len, cap, m, n, D, Pl, hcs, _, hl, hm, hmm, _, hi⟩
  · simp only [List.cons.injEq, and_true] at hcs
    subst hcs
    exact ⟨[], none, 0, rfl, by simp, by decide, fun j hj => absurd hj (by simp)⟩
  · simp only [List.cons.injEq, and_true] at hcs
    subst hcs
    have hlm : len ≤ m := by rw [hmm]; split <;> omega
    have hC : Try.prog.cellsOf 4 = 1 := by kernel_rfl
    have each : ∀ i, i < len → ∃ o : Bool, w.cell? (a.add i) = some (.bool o) := by
      intro i hilt
      obtain ⟨cs, hc, ht⟩ := hi i (by omega)
      obtain ⟨o, rfl, -⟩ := DataW.trod_bool Try.underlying4 ht
      obtain ⟨_, _, hat⟩ := World.cells?_some hc
      rw [hC] at hat
      have := hat 0 (by omega)
      rw [Go.Deep.add_add] at this
      exact ⟨o, by simpa using this⟩
    let f : Nat → Bool := fun i => if h : i < len then Classical.choose (each i h) else false
    have hf : ∀ i, i < len → w.cell? (a.add i) = some (.bool (f i)) := fun i hilt => by
      have := Classical.choose_spec (each i hilt)
      simp only [f, dif_pos hilt]
      exact this
    refine ⟨(List.range len).map f, some a, cap, by simp, by simpa using hl, hm, fun j hj => ?_⟩
    have hjl : j < len := by simpa using hj
    obtain ⟨b, off, spot⟩ := a
    have h00 := hf 0 (by omega)
    have hsp : spot = none := by simpa [Addr.add] using World.cell?_spot h00
    subst hsp
    have hg : ((List.range len).map f)[j] = f j := by simp
    rw [hg]
    have key := hf j hjl
    rw [Addr.add_lit] at key
    exact ⟨b, off, rfl, World.block_lt_of_cell? _ _ key, key⟩
set_option maxRecDepth 100000 in
/-- an argument of the type Play -/
theorem play_of {r : Reach} {b0 : Nat} {v : Value} {d : DataW H} {p : List MemPlace} (hv : Value.okWide Try.prog w r b0 87 v) (h : DataW.Trod enc Try.prog w base spare held 87 v d p) :
    ∃ (l : List (List Pt × List Pt)) (sf : List Bool) (vv at_ : Int) (u1 u2 : Value), v = .agg #[u1, u2, .int .i64 vv, .int .i64 at_] ∧ PrSl w u1 l ∧ BlSl w u2 sf := by
  obtain ⟨cs, rfl, hsz⟩ := okWide_struct Try.underlying87 hv
  obtain ⟨fuel, hf0⟩ := h
  obtain ⟨hl, hf⟩ := field_of Try.underlying87 (by kernel_rfl) (by kernel_rfl) hf0
  obtain ⟨v0, n0, y0, e0, t0⟩ := hf 0 _ rfl
  obtain ⟨v1, n1, y1, e1, t1⟩ := hf 1 _ rfl
  obtain ⟨v2, n2, y2, e2, t2⟩ := hf 2 _ rfl
  obtain ⟨v3, n3, y3, e3, t3⟩ := hf 3 _ rfl
  obtain ⟨l, hL⟩ := prSl_of t0
  obtain ⟨sf, hS⟩ := blSl_of t1
  obtain ⟨i2, a2, _, _⟩ := DataW.trod_int Try.underlying3 t2
  obtain ⟨i3, a3, _, _⟩ := DataW.trod_int Try.underlying3 t3
  simp only [List.cons.injEq, and_true] at a2 a3
  subst a2 a3
  obtain ⟨k⟩ := cs
  have : k = [v0, v1, .int .i64 i2, .int .i64 i3] := list4 hl e0 e1 e2 e3
  exact ⟨l, sf, i2, i3, v0, v1, by rw [this], hL, hS⟩
end
end Go.Proofs.Ytoklbeogmcdgaaa.Tms
