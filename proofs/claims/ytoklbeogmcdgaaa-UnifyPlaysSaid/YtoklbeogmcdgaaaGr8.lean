
/-
  Layer 8's arguments: []Op, [][2]uint8.
  prolixlaw08.great: are steps more than are looked at?
-/
import Derived.Test.YtoklbeogmcdgaaaPt
import Derived.ProofKit
import Derived.OpenShut
import Derived.ShutString
import Derived.ChangeOld
import Derived.ChangeMaps5
import Derived.Deep.Slices
import Derived.Deep.Fields
import Derived.ChangeSame
import Derived.Test.YtoklbeogmcdgaaaAl8
namespace Go.Proofs.Ytoklbeogmcdgaaa.Tms
open Go Go.ChangeMaps Go.ChangeShapes Go.WideShapes Go.ChangeAt Go.RowKit Go.Deep
set_option linter.unusedVariables false
set_option linter.unusedSimpArgs false

/-- a step of layer 8's laws -/
structure OpR where
  k : Int
  a : Int
  b : Int
  l : List Pt
def OpSl (w : World) (v : Value) (l : List OpR) : Prop :=
  ∃ a cap, v = .slice a l.length cap ∧ l.length ≤ cap ∧ cap ≤ maxLen ∧ ∀ j (h : j < l.length), ∃ b off u, a = some ⟨b, off, none⟩ ∧ b < w.heap.size ∧ w.cell? ⟨b, off + j * 4, none⟩ = some (.int .i64 l[j].k) ∧ w.cell? ⟨b, off + j * 4 + 1, none⟩ = some (.int .i64 l[j].a) ∧
    w.cell? ⟨b, off + j * 4 + 2, none⟩ = some (.int .i64 l[j].b) ∧ w.cell? ⟨b, off + j * 4 + 3, none⟩ = some u ∧ PtSl w u l[j].l
theorem OpSl.form {w : World} {v : Value} {l : List OpR} (h : OpSl w v l) : ∃ a cap, v = .slice a l.length cap ∧ l.length ≤ cap ∧ cap ≤ maxLen := let ⟨a, c, e, h1, h2, _⟩ := h; ⟨a, c, e, h1, h2⟩
theorem OpSl.below {w w' : World} {v : Value} {l : List OpR} (h : OpSl w v l) (hb : Below w.heap.size w w') : OpSl w' v l := by
  obtain ⟨a, cap, e, h1, h2, h3⟩ := h
  refine ⟨a, cap, e, h1, h2, fun j hj => ?_⟩
  obtain ⟨b, off, u, e1, hl, c0, c1, c2, c3, hp⟩ := h3 j hj
  have hc := fun o => World.cell?_of_block (w := w) (w' := w') (a := ⟨b, o, none⟩) (hb.block b hl)
  exact ⟨b, off, u, e1, Nat.lt_of_lt_of_le hl hb.size, (hc _).trans c0, (hc _).trans c1, (hc _).trans c2, (hc _).trans c3, hp.below hb⟩
/-- a slice of pairs of bytes -/
def BpSl (w : World) (v : Value) (l : List (Int × Int)) : Prop :=
  ∃ a cap, v = .slice a l.length cap ∧ l.length ≤ cap ∧ cap ≤ maxLen ∧ ∀ j (h : j < l.length), ∃ b off, a = some ⟨b, off, none⟩ ∧ b < w.heap.size ∧ w.cell? ⟨b, off + j * 2, none⟩ = some (.int .u8 l[j].1) ∧ w.cell? ⟨b, off + j * 2 + 1, none⟩ = some (.int .u8 l[j].2) ∧
    (0 ≤ l[j].1 ∧ l[j].1 < 256) ∧ 0 ≤ l[j].2 ∧ l[j].2 < 256
theorem BpSl.form {w : World} {v : Value} {l : List (Int × Int)} (h : BpSl w v l) : ∃ a cap, v = .slice a l.length cap ∧ l.length ≤ cap ∧ cap ≤ maxLen := let ⟨a, c, e, h1, h2, _⟩ := h; ⟨a, c, e, h1, h2⟩
theorem BpSl.below {w w' : World} {v : Value} {l : List (Int × Int)} (h : BpSl w v l) (hb : Below w.heap.size w w') : BpSl w' v l := by
  obtain ⟨a, cap, e, h1, h2, h3⟩ := h
  refine ⟨a, cap, e, h1, h2, fun j hj => ?_⟩
  obtain ⟨b, off, e1, hl, c0, c1, hp⟩ := h3 j hj
  have hc := fun o => World.cell?_of_block (w := w) (w' := w') (a := ⟨b, o, none⟩) (hb.block b hl)
  exact ⟨b, off, e1, Nat.lt_of_lt_of_le hl hb.size, (hc _).trans c0, (hc _).trans c1, hp⟩
section
variable {H : Type} {enc : TypeId × Value → H} {w : World} {base : Nat} {spare : Nat → Bool} {held : Bool}
end
end Go.Proofs.Ytoklbeogmcdgaaa.Tms
namespace Go.Proofs.Ytoklbeogmcdgaaa.Tms
open Go Go.RowKit Go.Proofs.Ytoklbeogmcdgaaa.Reg Go.Proofs.Ytoklbeogmcdgaaa.Rws Go.Proofs.Ytoklbeogmcdgaaa.Maps
set_option linter.unusedVariables false
set_option linter.unusedSimpArgs false

theorem OpSl.at {w : World} {n c : Nat} {q : Option Addr} {l : List OpR} (h : OpSl w (.slice q n c) l) (j : Nat) (hj : j < l.length) : ∃ b off a c', q = some ⟨b, off, none⟩ ∧ w.cell? ⟨b, off + j * 4, none⟩ = some (.int .i64 l[j].k) ∧ w.cell? ⟨b, off + j * 4 + 1, none⟩ = some (.int .i64 l[j].a) ∧
    w.cell? ⟨b, off + j * 4 + 2, none⟩ = some (.int .i64 l[j].b) ∧ w.cell? ⟨b, off + j * 4 + 3, none⟩ = some (.slice a l[j].l.length c') ∧ PtSl w (.slice a l[j].l.length c') l[j].l := by
  obtain ⟨a, cap, e, h1, h2, h3⟩ := h
  obtain ⟨b, off, u, e1, hl, c0, c1, c2, c3, hp⟩ := h3 j hj
  simp only [Value.slice.injEq] at e
  obtain ⟨rfl, -, -⟩ := e
  obtain ⟨a', c', rfl, -, -⟩ := hp.form
  exact ⟨b, off, a', c', e1, c0, c1, c2, c3, hp⟩
end Go.Proofs.Ytoklbeogmcdgaaa.Tms
