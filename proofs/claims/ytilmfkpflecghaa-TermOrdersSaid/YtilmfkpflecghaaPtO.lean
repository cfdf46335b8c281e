
/-
  How an argument of the reference's parts is read: parts in memory.
-/
import Derived.Test.YtilmfkpflecghaaPt
import Derived.Test.YtilmfkpflecghaaRows
import Derived.ProofKit
import Derived.OpenShut
import Derived.ShutString
import Derived.ChangeOld
import Derived.ChangeMaps5
import Derived.Deep.Slices
import Derived.Deep.Fields
import Derived.ChangeSame
namespace Go.Proofs.Ytilmfkpflecghaa.Tms
open Go Go.ChangeMaps Go.ChangeShapes Go.WideShapes Go.ChangeAt Go.RowKit Go.Deep
set_option linter.unusedVariables false

section
variable {H : Type} {enc : TypeId × Value → H} {P : Program} {w : World} {base : Nat} {spare : Nat → Bool} {held : Bool}

/-- a struct of fields of one cell each: each field's own reading -/
theorem field_of {t : TypeId} {fs : Array Field} {fuel : Nat} {cs : List Value} {x : DataW H × List MemPlace} (ht : P.underlying t = some (.struct fs)) (hone : oneCellFields P fs = true) (hC : P.cellsOf t = fs.size)
    (h : DataW.trod enc P w base spare held fuel t cs = some x) : cs.length = fs.size ∧ ∀ (j : Nat) (f : Field), fs[j]? = some f → ∃ v n y, cs[j]? = some v ∧ DataW.trod enc P w base spare held n f.type [v] = some y := by
  obtain ⟨xs, n, _, _, hl, hxl, hf⟩ := DataW.trod_struct ht h
  rw [hC] at hl
  refine ⟨hl, fun j f hj => ?_⟩
  obtain ⟨ho, hk⟩ := hone_of hone j f hj
  have hjl : j < fs.size := (Array.getElem?_eq_some_iff.1 hj).1
  have h1 := hf j f hj
  have hd : (cs.drop f.offset).take (P.cellsOf f.type) = [cs[j]'(by omega)] := by
    rw [ho, hk, List.drop_eq_getElem_cons (by omega)]
    rfl
  rw [hd, List.getElem?_eq_getElem (by omega)] at h1
  exact ⟨cs[j]'(by omega), n, _, List.getElem?_eq_getElem (by omega), h1⟩

theorem list4 {α : Type} {l : List α} {a b c d : α} (hl : l.length = 4) (h0 : l[0]? = some a) (h1 : l[1]? = some b) (h2 : l[2]? = some c) (h3 : l[3]? = some d) : l = [a, b, c, d] := by
  match l, hl with
  | [x0, x1, x2, x3], _ => simp at h0 h1 h2 h3; simp [h0, h1, h2, h3]
end

theorem wf_u8 {z : Int} (h : (Lit.int .u8 z).wf = true) : 0 ≤ z ∧ z < 256 := by
  simp only [Lit.wf, IntKind.min, IntKind.max, IntKind.signed, IntKind.bits, Bool.false_eq_true, if_false, Bool.and_eq_true, decide_eq_true_eq] at h
  omega

section
variable {H : Type} {enc : TypeId × Value → H} {w : World} {base : Nat} {spare : Nat → Bool} {held : Bool}

theorem pt_of {fuel : Nat} {cs : List Value} {x : DataW H × List MemPlace} (h : DataW.trod enc Try.prog w base spare held fuel 110 cs = some x) : ∃ p : Pt, cs = p.cells ∧ p.a < 256 := by
  obtain ⟨hl, hf⟩ := field_of Try.underlying110 (by kernel_rfl) (by kernel_rfl) h
  obtain ⟨v0, n0, y0, e0, t0⟩ := hf 0 _ rfl
  obtain ⟨v1, n1, y1, e1, t1⟩ := hf 1 _ rfl
  obtain ⟨v2, n2, y2, e2, t2⟩ := hf 2 _ rfl
  obtain ⟨v3, n3, y3, e3, t3⟩ := hf 3 _ rfl
  obtain ⟨i0, a0, _, _⟩ := DataW.trod_int Try.underlying3 t0
  obtain ⟨i1, a1, _, _⟩ := DataW.trod_int Try.underlying2 t1
  obtain ⟨i2, a2, _, _⟩ := DataW.trod_string Try.underlying9 t2
  obtain ⟨i3, a3, _, h3⟩ := DataW.trod_int Try.underlying5 t3
  simp only [List.cons.injEq, and_true] at a0 a1 a2 a3
  subst a0 a1 a2 a3
  have hb := wf_u8 h3
  obtain ⟨m, rfl⟩ := Int.eq_ofNat_of_zero_le hb.1
  exact ⟨⟨i0, i1, i2, m⟩, list4 hl e0 e1 e2 e3, by have := hb.2; show m < 256; omega⟩

theorem ptSl_of {fuel : Nat} {v : Value} {x : DataW H × List MemPlace} (h : DataW.trod enc Try.prog w base spare held fuel 22 [v] = some x) : ∃ L, PtSl w v L := by
  rcases open_slice Try.underlying22 h with ⟨hcs, _⟩ | ⟨a, len, cap, m, n, D, Pl, hcs, _, hl, hm, hmm, _, hi⟩
  · simp only [List.cons.injEq, and_true] at hcs
    subst hcs
    exact ⟨[], PtSl.none_ (by decide)⟩
  · simp only [List.cons.injEq, and_true] at hcs
    subst hcs
    have hlm : len ≤ m := by rw [hmm]; split <;> omega
    have hC : Try.prog.cellsOf 110 = 4 := by kernel_rfl
    have each : ∀ i, i < len → ∃ x : Pt, x.a < 256 ∧ ∀ q, q < 4 → w.cell? (a.add (i * 4 + q)) = x.cells[q]? := by
      intro i hilt
      obtain ⟨cs, hc, ht⟩ := hi i (by omega)
      obtain ⟨x, rfl, hx⟩ := pt_of ht
      obtain ⟨_, _, hat⟩ := World.cells?_some hc
      rw [hC] at hat
      exact ⟨x, hx, fun q hq => by rw [← Go.Deep.add_add]; exact hat q hq⟩
    let f : Nat → Pt := fun i => if h : i < len then Classical.choose (each i h) else ⟨0, 0, ⟨#[]⟩, 0⟩
    have hf : ∀ i, i < len → (f i).a < 256 ∧ ∀ q, q < 4 → w.cell? (a.add (i * 4 + q)) = (f i).cells[q]? := fun i hilt => by
      have := Classical.choose_spec (each i hilt)
      simp only [f, dif_pos hilt]
      exact this
    refine ⟨(List.range len).map f, some a, cap, by simp, fun j hj => ?_, by simpa using hl, hm⟩
    have hjl : j < len := by simpa using hj
    obtain ⟨b, off, spot⟩ := a
    have h00 : w.cell? ((⟨b, off, spot⟩ : Addr).add 0) = some (.int .i64 (f 0).k) := by simpa [Pt.cells] using (hf 0 (by omega)).2 0 (by omega)
    have hsp : spot = none := by simpa [Addr.add] using World.cell?_spot h00
    subst hsp
    have hg : ((List.range len).map f)[j] = f j := by simp
    rw [hg]
    have key : ∀ q, q < 4 → w.cell? ⟨b, off + j * 4 + q, none⟩ = (f j).cells[q]? := fun q hq => by
      have := (hf j hjl).2 q hq
      rw [Addr.add_lit, ← Nat.add_assoc] at this
      exact this
    exact ⟨(hf j hjl).1, b, off, rfl, World.block_lt_of_cell? _ _ ((key 0 (by omega)).trans rfl), key 0 (by omega), key 1 (by omega), key 2 (by omega), key 3 (by omega)⟩
set_option maxRecDepth 100000 in
/-- an argument of the type []Part -/
theorem pts_of {r : Reach} {b0 : Nat} {v : Value} {d : DataW H} {p : List MemPlace} (hv : Value.okWide Try.prog w r b0 22 v) (h : DataW.Trod enc Try.prog w base spare held 22 v d p) : ∃ L, PtSl w v L := by
  obtain ⟨a, len, cap, rfl⟩ := okWide_slice Try.underlying22 hv
  obtain ⟨fuel, hf⟩ := h
  exact ptSl_of hf
end
end Go.Proofs.Ytilmfkpflecghaa.Tms
