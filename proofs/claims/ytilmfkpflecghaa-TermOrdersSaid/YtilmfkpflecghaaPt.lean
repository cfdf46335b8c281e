
/-
  The reference's parts of terms: a slice of them in memory; what Of makes of them.
-/
import Derived.Test.YtilmfkpflecghaaTs
import Derived.Test.YtilmfkpflecghaaGnb
namespace Go.Proofs.Ytilmfkpflecghaa.Tms
open Go Go.RowKit

structure Pt where
  k : Int
  n : Int
  s : ByteArray
  a : Nat
def Pt.cells (p : Pt) : List Value := [.int .i64 p.k, .int .i64 p.n, .string p.s, .int .u8 p.a]

def PtSl (w : World) (v : Value) (L : List Pt) : Prop :=
  ∃ a cap, v = .slice a L.length cap ∧ (∀ j (h : j < L.length), L[j].a < 256 ∧ ∃ b off, a = some ⟨b, off, none⟩ ∧ b < w.heap.size ∧ w.cell? ⟨b, off + j * 4, none⟩ = some (.int .i64 L[j].k) ∧ w.cell? ⟨b, off + j * 4 + 1, none⟩ = some (.int .i64 L[j].n) ∧
    w.cell? ⟨b, off + j * 4 + 2, none⟩ = some (.string L[j].s) ∧ w.cell? ⟨b, off + j * 4 + 3, none⟩ = some (.int .u8 L[j].a)) ∧ L.length ≤ cap ∧ cap ≤ maxLen

theorem PtSl.below {w w' : World} {v : Value} {L : List Pt} (h : PtSl w v L) (hb : Below w.heap.size w w') : PtSl w' v L := by
  obtain ⟨a, cap, e, h, hc, hm⟩ := h
  refine ⟨a, cap, e, fun j hj => ?_, hc, hm⟩
  obtain ⟨ha, b, off, e, hlt, h0, h1, h2, h3⟩ := h j hj
  have c := fun o => hb.cell (p := ⟨b, o, none⟩) hlt
  exact ⟨ha, b, off, e, Nat.lt_of_lt_of_le hlt hb.size, (c _).trans h0, (c _).trans h1, (c _).trans h2, (c _).trans h3⟩

theorem PtSl.form {w : World} {v : Value} {L : List Pt} (h : PtSl w v L) : ∃ a cap, v = .slice a L.length cap ∧ L.length ≤ cap ∧ cap ≤ maxLen := by
  obtain ⟨a, cap, e, -, hc, hm⟩ := h
  exact ⟨a, cap, e, hc, hm⟩

/-- the slice from place k on -/
theorem PtSl.drop {w : World} {b off cap k : Nat} {L : List Pt} (h : PtSl w (.slice (some ⟨b, off, none⟩) L.length cap) L) (hk : k ≤ L.length) :
    PtSl w (.slice (some ⟨b, off + k * 4, none⟩) (L.length - k) (cap - k)) (L.drop k) := by
  obtain ⟨a', cap', e, h, hc, hm⟩ := h
  simp only [Value.slice.injEq, true_and] at e
  obtain ⟨rfl, rfl⟩ := e
  refine ⟨_, _, by rw [List.length_drop], fun j hj => ?_, by simp; omega, by omega⟩
  simp only [List.length_drop] at hj
  obtain ⟨ha, b', off', e, hlt, h0, h1, h2, h3⟩ := h (k + j) (by omega)
  simp only [Option.some.injEq, Addr.mk.injEq, and_true] at e
  obtain ⟨rfl, rfl⟩ := e
  rw [List.getElem_drop]
  rw [Nat.add_mul, ← Nat.add_assoc] at h0 h1 h2 h3
  exact ⟨ha, b, _, rfl, hlt, h0, h1, h2, h3⟩
theorem PtSl.none_ {w : World} {a : Option Addr} {cap : Nat} (hm : cap ≤ maxLen) : PtSl w (.slice a 0 cap) [] := ⟨a, cap, rfl, by simp, by simp, hm⟩
theorem PtSl.head {w : World} {a : Option Addr} {cap : Nat} {p : Pt} {L : List Pt} (h : PtSl w (.slice a (L.length + 1) cap) (p :: L)) : ∃ b off, a = some ⟨b, off, none⟩ ∧ p.a < 256 ∧ b < w.heap.size ∧ L.length + 1 ≤ cap ∧ cap ≤ maxLen ∧
    w.cell? ⟨b, off, none⟩ = some (.int .i64 p.k) ∧ w.cell? ⟨b, off + 1, none⟩ = some (.int .i64 p.n) ∧ w.cell? ⟨b, off + 2, none⟩ = some (.string p.s) ∧ w.cell? ⟨b, off + 3, none⟩ = some (.int .u8 p.a) := by
  obtain ⟨a', cap', e, h, hc, hm⟩ := h
  obtain ⟨rfl, -, rfl⟩ := Value.slice.inj e
  obtain ⟨ha, b, off, e, hlt, h0, h1, h2, h3⟩ := h 0 (by simp)
  simp only [Nat.zero_mul, Nat.add_zero, List.getElem_cons_zero] at h0 h1 h2 h3 ha
  exact ⟨b, off, e, ha, hlt, hc, hm, h0, h1, h2, h3⟩

/-- after k rounds: the terms, and how many parts they took -/
def ofTo (g : List Pt → Tm × Nat) (l : List Pt) : Nat → List Tm × Nat
  | 0 => ([], 0)
  | k + 1 => ((ofTo g l k).1 ++ [(g (l.drop (ofTo g l k).2)).1], (ofTo g l k).2 + (g (l.drop (ofTo g l k).2)).2)
def atomA : Tm := atomT ⟨#[97]⟩
def ofN : Nat → List Pt → Tm × Nat
  | 0, _ => (atomA, 0)
  | _ + 1, [] => (atomA, 0)
  | f + 1, p :: l => (.mk p.k p.n p.s (ofTo (ofN f) l (p.a % 8)).1, (ofTo (ofN f) l (p.a % 8)).2 + 1)
theorem ofTo_len (g : List Pt → Tm × Nat) (l : List Pt) : ∀ k, (ofTo g l k).1.length = k
  | 0 => rfl
  | k + 1 => by simp [ofTo, ofTo_len g l k]
theorem ofTo_le {g : List Pt → Tm × Nat} (hg : ∀ l, (g l).2 ≤ l.length) (l : List Pt) : ∀ k, (ofTo g l k).2 ≤ l.length
  | 0 => by simp [ofTo]
  | k + 1 => by have h1 := ofTo_le hg l k; have h2 := hg (l.drop (ofTo g l k).2); simp only [List.length_drop] at h2; simp only [ofTo]; omega
theorem ofN_le : ∀ (f : Nat) (l : List Pt), (ofN f l).2 ≤ l.length
  | 0, l => by simp [ofN]
  | f + 1, [] => by simp [ofN]
  | f + 1, p :: l => by have := ofTo_le (ofN_le f) l (p.a % 8); simp only [ofN, List.length_cons]; omega
theorem sizeL_app : ∀ (l m : List Tm), sizeL (l ++ m) = sizeL l + sizeL m
  | [], m => by simp [sizeL]
  | t :: l, m => by simp only [List.cons_append, sizeL, sizeL_app l m]; omega
theorem ofTo_size {g : List Pt → Tm × Nat} (hg : ∀ l, (g l).1.size ≤ 1 + 7 * (g l).2) (l : List Pt) : ∀ k, sizeL (ofTo g l k).1 ≤ k + 7 * (ofTo g l k).2
  | 0 => by simp [ofTo, sizeL]
  | k + 1 => by have h1 := ofTo_size hg l k; have h2 := hg (l.drop (ofTo g l k).2); simp only [ofTo, sizeL_app, sizeL]; omega
theorem ofN_size : ∀ (f : Nat) (l : List Pt), (ofN f l).1.size ≤ 1 + 7 * (ofN f l).2
  | 0, l => by simp [ofN, atomA, atomT, Tm.size, sizeL]
  | f + 1, [] => by simp [ofN, atomA, atomT, Tm.size, sizeL]
  | f + 1, p :: l => by have := ofTo_size (ofN_size f) l (p.a % 8); simp only [ofN, Tm.size]; omega
theorem ofN_small (f : Nat) (l : List Pt) : (ofN f l).1.size ≤ 1 + 7 * l.length := by have h1 := ofN_size f l; have h2 := ofN_le f l; omega
end Go.Proofs.Ytilmfkpflecghaa.Tms
