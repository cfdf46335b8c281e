
/-
  The reference's parts of terms: a slice of them in memory; what Of makes of them.
  How an argument of the reference's parts is read: parts in memory.
-/
import Derived.Test.YtkhchmgdaolojaaDoorTs
import Derived.Test.YtkhchmgdaolojaaDoorGnb
import Derived.Test.YtkhchmgdaolojaaDoorRows
import Derived.ProofKit
import Derived.OpenShut
import Derived.ShutString
import Derived.ChangeOld
import Derived.ChangeMaps5
import Derived.Deep.Slices
import Derived.Deep.Fields
import Derived.ChangeSame
namespace Go.Proofs.YtkhchmgdaolojaaDoor.Tms
open Go Go.RowKit

structure Pt where
  k : Int
  n : Int
  s : ByteArray
  a : Nat
def Pt.cells (p : Pt) : List Value := [.int .i64 p.k, .int .i64 p.n, .string p.s, .int .u8 p.a]

def PtSl (w : World) (v : Value) (L : List Pt) : Prop :=
  ∃ a cap, v = .slice a L.length cap ∧ (∀ j (h : j < L.length), L[j].a < 256 ∧ ∃ b off, a = some ⟨b, off, none⟩ ∧ b < w.heap.size ∧ w.cell? ⟨b, off + j * 4, none⟩ = some (.int .i64 L[j].k) ∧ w.cell? ⟨b, off + j * 4 + 1, none⟩ = some (.int .i64 L[j].n) ∧
    w.cell? ⟨b, off + j * 4 + 2, none⟩ = some (.string L[j].s) ∧ w.cell? ⟨b, off + j * 4 + 3, none⟩ = some (.int .u8 L[j].a)) ∧ L.length ≤ cap ∧ cap ≤ maxLen

theorem PtSl.below {w w' : World} {v : Value} {L : List Pt} (h : PtSl w v L) (hb : Below w.heap.size w w') : PtSl w' v L := by
  obtain ⟨a, cap, e, h, hc, hm⟩ := h
  refine ⟨a, cap, e, fun j hj => ?_, hc, hm⟩
  obtain ⟨ha, b, off, e, hlt, h0, h1, h2, h3⟩ := h j hj
  have c := fun o => hb.cell (p := ⟨b, o, none⟩) hlt
  exact ⟨ha, b, off, e, Nat.lt_of_lt_of_le hlt hb.size, (c _).trans h0, (c _).trans h1, (c _).trans h2, (c _).trans h3⟩

theorem PtSl.form {w : World} {v : Value} {L : List Pt} (h : PtSl w v L) : ∃ a cap, v = .slice a L.length cap ∧ L.length ≤ cap ∧ cap ≤ maxLen := by
  obtain ⟨a, cap, e, -, hc, hm⟩ := h
  exact ⟨a, cap, e, hc, hm⟩

/-- the slice from place k on -/
theorem PtSl.drop {w : World} {b off cap k : Nat} {L : List Pt} (h : PtSl w (.slice (some ⟨b, off, none⟩) L.length cap) L) (hk : k ≤ L.length) :
    PtSl w (.slice (some ⟨b, off + k * 4, none⟩) (L.length - k) (cap - k)) (L.drop k) := by
  obtain ⟨a', cap', e, h, hc, hm⟩ := h
  simp only [Value.slice.injEq, true_and] at e
  obtain ⟨rfl, rfl⟩ := e
  refine ⟨_, _, by rw [List.length_drop], fun j hj => ?_, by simp; omega, by omega⟩
  simp only [List.length_drop] at hj
  obtain ⟨ha, b', off', e, hlt, h0, h1, h2, h3⟩ := h (k + j) (by omega)
  simp only [Option.some.injEq, Addr.mk.injEq, and_true] at e
  obtain ⟨rfl, rfl⟩ := e
  rw [List.getElem_drop]
  rw [Nat.add_mul, ← Nat.add_assoc] at h0 h1 h2 h3
  exact ⟨ha, b, _, rfl, hlt, h0, h1, h2, h3⟩
theorem PtSl.none_ {w : World} {a : Option Addr} {cap : Nat} (hm : cap ≤ maxLen) : PtSl w (.slice a 0 cap) [] := ⟨a, cap, rfl, by simp, by simp, hm⟩
theorem PtSl.head {w : World} {a : Option Addr} {cap : Nat} {p : Pt} {L : List Pt} (h : PtSl w (.slice a (L.length + 1) cap) (p :: L)) : ∃ b off, a = some ⟨b, off, none⟩ ∧ p.a < 256 ∧ b < w.heap.size ∧ L.length + 1 ≤ cap ∧ cap ≤ maxLen ∧
    w.cell? ⟨b, off, none⟩ = some (.int .i64 p.k) ∧ w.cell? ⟨b, off + 1, none⟩ = some (.int .i64 p.n) ∧ w.cell? ⟨b, off + 2, none⟩ = some (.string p.s) ∧ w.cell? ⟨b, off + 3, none⟩ = some (.int .u8 p.a) := by
  obtain ⟨a', cap', e, h, hc, hm⟩ := h
  obtain ⟨rfl, -, rfl⟩ := Value.slice.inj e
  obtain ⟨ha, b, off, e, hlt, h0, h1, h2, h3⟩ := h 0 (by simp)
  simp only [Nat.zero_mul, Nat.add_zero, List.getElem_cons_zero] at h0 h1 h2 h3 ha
  exact ⟨b, off, e, ha, hlt, hc, hm, h0, h1, h2, h3⟩

/-- after k rounds: the terms, and how many parts they took -/
def ofTo (g : List Pt → Tm × Nat) (l : List Pt) : Nat → List Tm × Nat
  | 0 => ([], 0)
  | k + 1 => ((ofTo g l k).1 ++ [(g (l.drop (ofTo g l k).2)).1], (ofTo g l k).2 + (g (l.drop (ofTo g l k).2)).2)
def atomA : Tm := atomT ⟨#[97]⟩
def ofN : Nat → List Pt → Tm × Nat
  | 0, _ => (atomA, 0)
  | _ + 1, [] => (atomA, 0)
  | f + 1, p :: l => (.mk p.k p.n p.s (ofTo (ofN f) l (p.a % 8)).1, (ofTo (ofN f) l (p.a % 8)).2 + 1)
theorem ofTo_len (g : List Pt → Tm × Nat) (l : List Pt) : ∀ k, (ofTo g l k).1.length = k
  | 0 => rfl
  | k + 1 => by simp [ofTo, ofTo_len g l k]
theorem ofTo_le {g : List Pt → Tm × Nat} (hg : ∀ l, (g l).2 ≤ l.length) (l : List Pt) : ∀ k, (ofTo g l k).2 ≤ l.length
  | 0 => by simp [ofTo]
  | k + 1 => by have h1 := ofTo_le hg l k; have h2 := hg (l.drop (ofTo g l k).2); simp only [List.length_drop] at h2; simp only [ofTo]; omega
theorem ofN_le : ∀ (f : Nat) (l : List Pt), (ofN f l).2 ≤ l.length
  | 0, l => by simp [ofN]
  | f + 1, [] => by simp [ofN]
  | f + 1, p :: l => by have := ofTo_le (ofN_le f) l (p.a % 8); simp only [ofN, List.length_cons]; omega
theorem sizeL_app : ∀ (l m : List Tm), sizeL (l ++ m) = sizeL l + sizeL m
  | [], m => by simp [sizeL]
  | t :: l, m => by simp only [List.cons_append, sizeL, sizeL_app l m]; omega
theorem ofTo_size {g : List Pt → Tm × Nat} (hg : ∀ l, (g l).1.size ≤ 1 + 7 * (g l).2) (l : List Pt) : ∀ k, sizeL (ofTo g l k).1 ≤ k + 7 * (ofTo g l k).2
  | 0 => by simp [ofTo, sizeL]
  | k + 1 => by have h1 := ofTo_size hg l k; have h2 := hg (l.drop (ofTo g l k).2); simp only [ofTo, sizeL_app, sizeL]; omega
theorem ofN_size : ∀ (f : Nat) (l : List Pt), (ofN f l).1.size ≤ 1 + 7 * (ofN f l).2
  | 0, l => by simp [ofN, atomA, atomT, Tm.size, sizeL]
  | f + 1, [] => by simp [ofN, atomA, atomT, Tm.size, sizeL]
  | f + 1, p :: l => by have := ofTo_size (ofN_size f) l (p.a % 8); simp only [ofN, Tm.size]; omega
theorem ofN_small (f : Nat) (l : List Pt) : (ofN f l).1.size ≤ 1 + 7 * l.length := by have h1 := ofN_size f l; have h2 := ofN_le f l; omega
end Go.Proofs.YtkhchmgdaolojaaDoor.Tms
namespace Go.Proofs.YtkhchmgdaolojaaDoor.Tms
open Go Go.ChangeMaps Go.ChangeShapes Go.WideShapes Go.ChangeAt Go.RowKit Go.Deep
set_option linter.unusedVariables false

section
variable {H : Type} {enc : TypeId × Value → H} {P : Program} {w : World} {base : Nat} {spare : Nat → Bool} {held : Bool}

/-- a struct of fields of one cell each: each field's own reading -/
theorem field_of {t : TypeId} {fs : Array Field} {fuel : Nat} {cs : List Value} {x : DataW H × List MemPlace} (ht : P.underlying t = some (.struct fs)) (hone : oneCellFields P fs = true) (hC : P.cellsOf t = fs.size)
    (h : DataW.trod enc P w base spare held fuel t cs = some x) : cs.length = fs.size ∧ ∀ (j : Nat) (f : Field), fs[j]? = some f → ∃ v n y, cs[j]? = some v ∧ DataW.trod enc P w base spare held n f.type [v] = some y := by
  obtain ⟨xs, n, _, _, hl, hxl, hf⟩ := DataW.trod_struct ht h
  rw [hC] at hl
  refine ⟨hl, fun j f hj => ?_⟩
  obtain ⟨ho, hk⟩ := hone_of hone j f hj
  have hjl : j < fs.size := (Array.getElem?_eq_some_iff.1 hj).1
  have h1 := hf j f hj
  have hd : (cs.drop f.offset).take (P.cellsOf f.type) = [cs[j]'(by omega)] := by
    rw [ho, hk, List.drop_eq_getElem_cons (by omega)]
    rfl
  rw [hd, List.getElem?_eq_getElem (by omega)] at h1
  exact ⟨cs[j]'(by omega), n, _, List.getElem?_eq_getElem (by omega), h1⟩

theorem list4 {α : Type} {l : List α} {a b c d : α} (hl : l.length = 4) (h0 : l[0]? = some a) (h1 : l[1]? = some b) (h2 : l[2]? = some c) (h3 : l[3]? = some d) : l = [a, b, c, d] := by
  match l, hl with
  | [x0, x1, x2, x3], _ => simp at h0 h1 h2 h3; simp [h0, h1, h2, h3]
end

theorem wf_u8 {z : Int} (h : (Lit.int .u8 z).wf = true) : 0 ≤ z ∧ z < 256 := by
  simp only [Lit.wf, IntKind.min, IntKind.max, IntKind.signed, IntKind.bits, Bool.false_eq_true, if_false, Bool.and_eq_true, decide_eq_true_eq] at h
  omega

section
variable {H : Type} {enc : TypeId × Value → H} {w : World} {base : Nat} {spare : Nat → Bool} {held : Bool}

theorem pt_of {fuel : Nat} {cs : List Value} {x : DataW H × List MemPlace} (h : DataW.trod enc Tryd.prog w base spare held fuel 56 cs = some x) : ∃ p : Pt, cs = p.cells ∧ p.a < 256 ∧ (Lit.int .i64 p.n).wf = true := by
  obtain ⟨hl, hf⟩ := field_of Tryd.underlying56 (by kernel_rfl) (by kernel_rfl) h
  obtain ⟨v0, n0, y0, e0, t0⟩ := hf 0 _ rfl
  obtain ⟨v1, n1, y1, e1, t1⟩ := hf 1 _ rfl
  obtain ⟨v2, n2, y2, e2, t2⟩ := hf 2 _ rfl
  obtain ⟨v3, n3, y3, e3, t3⟩ := hf 3 _ rfl
  obtain ⟨i0, a0, _, _⟩ := DataW.trod_int Tryd.underlying3 t0
  obtain ⟨i1, a1, _, w1⟩ := DataW.trod_int Tryd.underlying2 t1
  obtain ⟨i2, a2, _, _⟩ := DataW.trod_string Tryd.underlying9 t2
  obtain ⟨i3, a3, _, h3⟩ := DataW.trod_int Tryd.underlying5 t3
  simp only [List.cons.injEq, and_true] at a0 a1 a2 a3
  subst a0 a1 a2 a3
  have hb := wf_u8 h3
  obtain ⟨m, rfl⟩ := Int.eq_ofNat_of_zero_le hb.1
  exact ⟨⟨i0, i1, i2, m⟩, list4 hl e0 e1 e2 e3, by have := hb.2; show m < 256; omega, w1⟩

theorem ptSl_of {fuel : Nat} {v : Value} {x : DataW H × List MemPlace} (h : DataW.trod enc Tryd.prog w base spare held fuel 25 [v] = some x) : ∃ L, PtSl w v L ∧ ∀ p ∈ L, (Lit.int .i64 p.n).wf = true := by
  rcases open_slice Tryd.underlying25 h with ⟨hcs, _⟩ | ⟨a, len, cap, m, n, D, Pl, hcs, _, hl, hm, hmm, _, hi⟩
  · simp only [List.cons.injEq, and_true] at hcs
    subst hcs
    exact ⟨[], PtSl.none_ (by decide), fun p h => by cases h⟩
  · simp only [List.cons.injEq, and_true] at hcs
    subst hcs
    have hlm : len ≤ m := by rw [hmm]; split <;> omega
    have hC : Tryd.prog.cellsOf 56 = 4 := by kernel_rfl
    have each : ∀ i, i < len → ∃ x : Pt, (x.a < 256 ∧ (Lit.int .i64 x.n).wf = true) ∧ ∀ q, q < 4 → w.cell? (a.add (i * 4 + q)) = x.cells[q]? := by
      intro i hilt
      obtain ⟨cs, hc, ht⟩ := hi i (by omega)
      obtain ⟨x, rfl, hx⟩ := pt_of ht
      obtain ⟨_, _, hat⟩ := World.cells?_some hc
      rw [hC] at hat
      exact ⟨x, hx, fun q hq => by rw [← Go.Deep.add_add]; exact hat q hq⟩
    let f : Nat → Pt := fun i => if h : i < len then Classical.choose (each i h) else ⟨0, 0, ⟨#[]⟩, 0⟩
    have hf : ∀ i, i < len → ((f i).a < 256 ∧ (Lit.int .i64 (f i).n).wf = true) ∧ ∀ q, q < 4 → w.cell? (a.add (i * 4 + q)) = (f i).cells[q]? := fun i hilt => by
      have := Classical.choose_spec (each i hilt)
      simp only [f, dif_pos hilt]
      exact this
    refine ⟨(List.range len).map f, ⟨some a, cap, by simp, fun j hj => ?_, by simpa using hl, hm⟩, fun p hp => by obtain ⟨i, hi, rfl⟩ := List.mem_map.1 hp; exact (hf i (List.mem_range.1 hi)).1.2⟩
    have hjl : j < len := by simpa using hj
    obtain ⟨b, off, spot⟩ := a
    have h00 : w.cell? ((⟨b, off, spot⟩ : Addr).add 0) = some (.int .i64 (f 0).k) := by simpa [Pt.cells] using (hf 0 (by omega)).2 0 (by omega)
    have hsp : spot = none := by simpa [Addr.add] using World.cell?_spot h00
    subst hsp
    have hg : ((List.range len).map f)[j] = f j := by simp
    rw [hg]
    have key : ∀ q, q < 4 → w.cell? ⟨b, off + j * 4 + q, none⟩ = (f j).cells[q]? := fun q hq => by
      have := (hf j hjl).2 q hq
      rw [Addr.add_lit, ← Nat.add_assoc] at this
      exact this
    exact ⟨(hf j hjl).1.1, b, off, rfl, World.block_lt_of_cell? _ _ ((key 0 (by omega)).trans rfl), key 0 (by omega), key 1 (by omega), key 2 (by omega), key 3 (by omega)⟩
end
end Go.Proofs.YtkhchmgdaolojaaDoor.Tms
