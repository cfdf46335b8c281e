
/-
  Layer 8's arguments: []Op, [][2]uint8.
  prolixlaw08.great: are steps more than are looked at?
-/
import Derived.Test.YtoklbeogmcdgaaaPt
import Derived.ProofKit
import Derived.OpenShut
import Derived.ShutString
import Derived.ChangeOld
import Derived.ChangeMaps5
import Derived.Deep.Slices
import Derived.Deep.Fields
import Derived.ChangeSame
import Derived.Test.YtoklbeogmcdgaaaAl8
namespace Go.Proofs.Ytoklbeogmcdgaaa.Tms
open Go Go.ChangeMaps Go.ChangeShapes Go.WideShapes Go.ChangeAt Go.RowKit Go.Deep
set_option linter.unusedVariables false
set_option linter.unusedSimpArgs false

/-- a step of layer 8's laws -/
structure OpR where
  k : Int
  a : Int
  b : Int
  l : List Pt
def OpSl (w : World) (v : Value) (l : List OpR) : Prop :=
  ∃ a cap, v = .slice a l.length cap ∧ l.length ≤ cap ∧ cap ≤ maxLen ∧ ∀ j (h : j < l.length), ∃ b off u, a = some ⟨b, off, none⟩ ∧ b < w.heap.size ∧ w.cell? ⟨b, off + j * 4, none⟩ = some (.int .i64 l[j].k) ∧ w.cell? ⟨b, off + j * 4 + 1, none⟩ = some (.int .i64 l[j].a) ∧
    w.cell? ⟨b, off + j * 4 + 2, none⟩ = some (.int .i64 l[j].b) ∧ w.cell? ⟨b, off + j * 4 + 3, none⟩ = some u ∧ PtSl w u l[j].l
theorem OpSl.form {w : World} {v : Value} {l : List OpR} (h : OpSl w v l) : ∃ a cap, v = .slice a l.length cap ∧ l.length ≤ cap ∧ cap ≤ maxLen := let ⟨a, c, e, h1, h2, _⟩ := h; ⟨a, c, e, h1, h2⟩
theorem OpSl.below {w w' : World} {v : Value} {l : List OpR} (h : OpSl w v l) (hb : Below w.heap.size w w') : OpSl w' v l := by
  obtain ⟨a, cap, e, h1, h2, h3⟩ := h
  refine ⟨a, cap, e, h1, h2, fun j hj => ?_⟩
  obtain ⟨b, off, u, e1, hl, c0, c1, c2, c3, hp⟩ := h3 j hj
  have hc := fun o => World.cell?_of_block (w := w) (w' := w') (a := ⟨b, o, none⟩) (hb.block b hl)
  exact ⟨b, off, u, e1, Nat.lt_of_lt_of_le hl hb.size, (hc _).trans c0, (hc _).trans c1, (hc _).trans c2, (hc _).trans c3, hp.below hb⟩
/-- a slice of pairs of bytes -/
def BpSl (w : World) (v : Value) (l : List (Int × Int)) : Prop :=
  ∃ a cap, v = .slice a l.length cap ∧ l.length ≤ cap ∧ cap ≤ maxLen ∧ ∀ j (h : j < l.length), ∃ b off, a = some ⟨b, off, none⟩ ∧ b < w.heap.size ∧ w.cell? ⟨b, off + j * 2, none⟩ = some (.int .u8 l[j].1) ∧ w.cell? ⟨b, off + j * 2 + 1, none⟩ = some (.int .u8 l[j].2) ∧
    (0 ≤ l[j].1 ∧ l[j].1 < 256) ∧ 0 ≤ l[j].2 ∧ l[j].2 < 256
theorem BpSl.form {w : World} {v : Value} {l : List (Int × Int)} (h : BpSl w v l) : ∃ a cap, v = .slice a l.length cap ∧ l.length ≤ cap ∧ cap ≤ maxLen := let ⟨a, c, e, h1, h2, _⟩ := h; ⟨a, c, e, h1, h2⟩
theorem BpSl.below {w w' : World} {v : Value} {l : List (Int × Int)} (h : BpSl w v l) (hb : Below w.heap.size w w') : BpSl w' v l := by
  obtain ⟨a, cap, e, h1, h2, h3⟩ := h
  refine ⟨a, cap, e, h1, h2, fun j hj => ?_⟩
  obtain ⟨b, off, e1, hl, c0, c1, hp⟩ := h3 j hj
  have hc := fun o => World.cell?_of_block (w := w) (w' := w') (a := ⟨b, o, none⟩) (hb.block b hl)
  exact ⟨b, off, e1, Nat.lt_of_lt_of_le hl hb.size, (hc _).trans c0, (hc _).trans c1, hp⟩
section
variable {H : Type} {enc : TypeId × Value → H} {w : World} {base : Nat} {spare : Nat → Bool} {held : Bool}
set_option maxRecDepth 100000 in
theorem bp_of {fuel : Nat} {cs : List Value} {x : DataW H × List MemPlace} (h : DataW.trod enc Try.prog w base spare held fuel 53 cs = some x) : ∃ a b : Int, cs = [.int .u8 a, .int .u8 b] ∧ (0 ≤ a ∧ a < 256) ∧ 0 ≤ b ∧ b < 256 := by
  obtain ⟨ys, m, _, _, hcl, hl, hf⟩ := DataW.trod_array Try.underlying53 h
  have hC : Try.prog.cellsOf 53 = 2 := by kernel_rfl
  have hE : Try.prog.cellsOf 5 = 1 := by kernel_rfl
  rw [hC] at hcl
  match cs, hcl with
  | [v0, v1], _ =>
    have h0 := hf 0 (by omega)
    have h1 := hf 1 (by omega)
    rw [hE] at h0 h1
    rw [List.getElem?_eq_getElem (by omega)] at h0 h1
    obtain ⟨i0, a0, _, w0⟩ := DataW.trod_int Try.underlying5 h0
    obtain ⟨i1, a1, _, w1⟩ := DataW.trod_int Try.underlying5 h1
    simp at a0 a1
    subst a0 a1
    exact ⟨i0, i1, rfl, wf_u8 w0, wf_u8 w1⟩
set_option maxRecDepth 100000 in
theorem bpSl_of {fuel : Nat} {v : Value} {x : DataW H × List MemPlace} (h : DataW.trod enc Try.prog w base spare held fuel 45 [v] = some x) : ∃ l, BpSl w v l := by
  rcases open_slice Try.underlying45 h with ⟨hcs, _⟩ | ⟨a, len, cap, m, n, D, Pl, hcs, _, hl, hm, hmm, _, hi⟩
  · simp only [List.cons.injEq, and_true] at hcs
    subst hcs
    exact ⟨[], none, 0, rfl, by simp, by decide, fun j hj => absurd hj (by simp)⟩
  · simp only [List.cons.injEq, and_true] at hcs
    subst hcs
    have hlm : len ≤ m := by rw [hmm]; split <;> omega
    have hC : Try.prog.cellsOf 53 = 2 := by kernel_rfl
    have each : ∀ i, i < len → ∃ o : Int × Int, (∀ q, q < 2 → w.cell? (a.add (i * 2 + q)) = [Value.int .u8 o.1, .int .u8 o.2][q]?) ∧ (0 ≤ o.1 ∧ o.1 < 256) ∧ 0 ≤ o.2 ∧ o.2 < 256 := by
      intro i hilt
      obtain ⟨cs, hc, ht⟩ := hi i (by omega)
      obtain ⟨x, y, rfl, hL⟩ := bp_of ht
      obtain ⟨_, _, hat⟩ := World.cells?_some hc
      rw [hC] at hat
      exact ⟨(x, y), fun q hq => by rw [← Go.Deep.add_add]; exact hat q hq, hL⟩
    let f : Nat → Int × Int := fun i => if h : i < len then Classical.choose (each i h) else (0, 0)
    have hf : ∀ i, i < len → (∀ q, q < 2 → w.cell? (a.add (i * 2 + q)) = [Value.int .u8 (f i).1, .int .u8 (f i).2][q]?) ∧ (0 ≤ (f i).1 ∧ (f i).1 < 256) ∧ 0 ≤ (f i).2 ∧ (f i).2 < 256 := fun i hilt => by
      have := Classical.choose_spec (each i hilt)
      simp only [f, dif_pos hilt]
      exact this
    refine ⟨(List.range len).map f, some a, cap, by simp, by simpa using hl, hm, fun j hj => ?_⟩
    have hjl : j < len := by simpa using hj
    obtain ⟨b, off, spot⟩ := a
    obtain ⟨hq, hp⟩ := hf j hjl
    have h00 : w.cell? ((⟨b, off, spot⟩ : Addr).add 0) = some (.int .u8 (f 0).1) := (hf 0 (by omega)).1 0 (by omega)
    have hsp : spot = none := by simpa [Addr.add] using World.cell?_spot h00
    subst hsp
    have hg : ((List.range len).map f)[j] = f j := by simp
    rw [hg]
    have key : ∀ q, q < 2 → w.cell? ⟨b, off + j * 2 + q, none⟩ = [Value.int .u8 (f j).1, .int .u8 (f j).2][q]? := fun q hq' => by
      have := hq q hq'
      rw [Addr.add_lit, ← Nat.add_assoc] at this
      exact this
    exact ⟨b, off, rfl, World.block_lt_of_cell? _ _ ((key 0 (by omega)).trans rfl), key 0 (by omega), key 1 (by omega), hp⟩
end
end Go.Proofs.Ytoklbeogmcdgaaa.Tms
namespace Go.Proofs.Ytoklbeogmcdgaaa.Tms
open Go Go.RowKit Go.Proofs.Ytoklbeogmcdgaaa.Reg Go.Proofs.Ytoklbeogmcdgaaa.Rws Go.Proofs.Ytoklbeogmcdgaaa.Maps
set_option linter.unusedVariables false
set_option linter.unusedSimpArgs false

theorem OpSl.at {w : World} {n c : Nat} {q : Option Addr} {l : List OpR} (h : OpSl w (.slice q n c) l) (j : Nat) (hj : j < l.length) : ∃ b off a c', q = some ⟨b, off, none⟩ ∧ w.cell? ⟨b, off + j * 4, none⟩ = some (.int .i64 l[j].k) ∧ w.cell? ⟨b, off + j * 4 + 1, none⟩ = some (.int .i64 l[j].a) ∧
    w.cell? ⟨b, off + j * 4 + 2, none⟩ = some (.int .i64 l[j].b) ∧ w.cell? ⟨b, off + j * 4 + 3, none⟩ = some (.slice a l[j].l.length c') ∧ PtSl w (.slice a l[j].l.length c') l[j].l := by
  obtain ⟨a, cap, e, h1, h2, h3⟩ := h
  obtain ⟨b, off, u, e1, hl, c0, c1, c2, c3, hp⟩ := h3 j hj
  simp only [Value.slice.injEq] at e
  obtain ⟨rfl, -, -⟩ := e
  obtain ⟨a', c', rfl, -, -⟩ := hp.form
  exact ⟨b, off, a', c', e1, c0, c1, c2, c3, hp⟩
end Go.Proofs.Ytoklbeogmcdgaaa.Tms
