
/-
  Codes of clauses as plain Lean data, what the program and the document's reference make of them, and how such a code lies in memory. No program stands here.
-/
import Derived.WalkKit
import Derived.Lib.Hide
namespace Go.Proofs.Ytkhchmgdaolojaa.Cod
open Go Go.RowKit

structure Ins where
  op : Int
  a : Int
  n : Int
  s : ByteArray

structure Cod where
  name : ByteArray
  args : Int
  slots : Int
  body : Int
  l : List Ins

def Ins.bad (i : Ins) : Bool := decide (i.op < 1) || decide (6 < i.op) || (decide (i.op = 6) && (decide (i.a < 1) || decide (255 < i.a)))
def Ins.ar (i : Ins) : Nat := if i.op = 6 then i.a.toNat else 0

/-- how many instructions so many patterns take -/
def sk : List Ins → Nat → Option Nat
  | _, 0 => some 0
  | [], _ + 1 => none
  | i :: l, n + 1 => if i.bad then none else (sk l (n + i.ar)).map (· + 1)

def skA (L : List Ins) (m k : Nat) : Int := match sk (L.drop k) m with
  | none => -1
  | some j => (k : Int) + j

def skip (L : List Ins) (z : Int) : Int := if z < 0 then -1 else skA L 1 z.toNat

theorem sk_zero (l : List Ins) : sk l 0 = some 0 := by cases l <;> rfl
theorem skA_zero (L : List Ins) (k : Nat) : skA L 0 k = k := by simp [skA, sk_zero]
theorem skA_end (L : List Ins) (m k : Nat) (h : L.length ≤ k) : skA L (m + 1) k = -1 := by simp [skA, List.drop_eq_nil_of_le h, sk]
theorem skA_bad (L : List Ins) (m k : Nat) (h : k < L.length) (hb : L[k].bad = true) : skA L (m + 1) k = -1 := by
  unfold skA; rw [List.drop_eq_getElem_cons h]; simp only [sk, hb, if_true]
theorem skA_step (L : List Ins) (m k : Nat) (h : k < L.length) (hb : L[k].bad = false) : skA L (m + 1) k = skA L (m + L[k].ar) (k + 1) := by
  simp only [skA, List.drop_eq_getElem_cons h, sk, hb]
  cases sk (L.drop (k + 1)) (m + L[k].ar) <;> simp <;> omega

theorem skA_ge (L : List Ins) (m k : Nat) : skA L m k = -1 ∨ (k : Int) ≤ skA L m k := by
  unfold skA; cases sk (L.drop k) m <;> simp <;> omega
theorem sk_le : ∀ (l : List Ins) (n j : Nat), sk l n = some j → j ≤ l.length
  | l, 0, j, h => by rw [sk_zero] at h; cases h; omega
  | [], n + 1, j, h => by simp [sk] at h
  | i :: l, n + 1, j, h => by
    unfold sk at h
    split at h
    · cases h
    · cases h1 : sk l (n + i.ar) with
      | none => simp [h1] at h
      | some q => simp [h1] at h; subst h; have := sk_le l _ q h1; simp only [List.length_cons]; omega
theorem skA_le (L : List Ins) (m k : Nat) (hk : k ≤ L.length) : skA L m k ≤ L.length := by
  unfold skA
  cases h : sk (L.drop k) m with
  | none => simp only []; omega
  | some j => have := sk_le _ _ _ h; simp at this ⊢; omega
theorem sk_pos : ∀ (l : List Ins) (n j : Nat), sk l (n + 1) = some j → 1 ≤ j
  | [], n, j, h => by simp [sk] at h
  | i :: l, n, j, h => by
    unfold sk at h
    split at h
    · cases h
    · cases h1 : sk l (n + i.ar) with
      | none => simp [h1] at h
      | some q => simp [h1] at h; omega
theorem skip_neg (L : List Ins) (z : Int) (h : z < 0) : skip L z = -1 := by simp [skip, h]
theorem skip_nat (L : List Ins) (k : Nat) : skip L (k : Int) = skA L 1 k := by
  have : ¬ ((k : Int) < 0) := by omega
  simp [skip, this]
theorem skip_of (L : List Ins) (z : Int) (h : 0 ≤ z) : skip L z = skA L 1 z.toNat := by
  have : ¬ z < 0 := by omega
  simp [skip, this]
theorem skip_past (L : List Ins) (z : Int) (h : (L.length : Int) ≤ z) : skip L z = -1 := by
  rw [skip_of L z (by omega), skA_end L 0 z.toNat (by omega)]
theorem skip_lo (L : List Ins) (z : Int) : -1 ≤ skip L z := by
  unfold skip; split
  · omega
  · rcases skA_ge L 1 z.toNat with h | h <;> omega
theorem skip_hi (L : List Ins) (z : Int) : skip L z ≤ L.length := by
  by_cases h : z ≤ L.length
  · unfold skip; split
    · omega
    · exact skA_le L 1 z.toNat (by omega)
  · rw [skip_past L z (by omega)]; omega

/-! ### In memory -/

def InsAt (w : World) (b o : Nat) (i : Ins) : Prop :=
  w.cell? ⟨b, o, none⟩ = some (.int .i64 i.op) ∧ w.cell? ⟨b, o + 1, none⟩ = some (.int .i64 i.a) ∧ w.cell? ⟨b, o + 2, none⟩ = some (.int .i64 i.n) ∧ w.cell? ⟨b, o + 3, none⟩ = some (.string i.s)

/-- a slice value that holds these instructions -/
def InsSl (w : World) (v : Value) (L : List Ins) : Prop :=
  ∃ a cap, v = .slice a L.length cap ∧ ∀ j (h : j < L.length), ∃ b off, a = some ⟨b, off, none⟩ ∧ InsAt w b (off + j * 4) L[j]

theorem InsAt.lt {w : World} {b o : Nat} {i : Ins} (h : InsAt w b o i) : b < w.heap.size := World.block_lt_of_cell? _ _ h.1

theorem InsAt.below {w w' : World} {b o B : Nat} {i : Ins} (h : InsAt w b o i) (hb : Below B w w') (hlt : b < B) : InsAt w' b o i :=
  ⟨(hb.cell (p := ⟨b, o, none⟩) hlt).trans h.1, (hb.cell (p := ⟨b, o + 1, none⟩) hlt).trans h.2.1, (hb.cell (p := ⟨b, o + 2, none⟩) hlt).trans h.2.2.1, (hb.cell (p := ⟨b, o + 3, none⟩) hlt).trans h.2.2.2⟩

theorem InsSl.below {w w' : World} {v : Value} {L : List Ins} (h : InsSl w v L) (hb : Below w.heap.size w w') : InsSl w' v L := by
  obtain ⟨a, cap, rfl, hc⟩ := h
  refine ⟨a, cap, rfl, fun j hj => ?_⟩
  obtain ⟨b, off, rfl, hi⟩ := hc j hj
  exact ⟨b, off, rfl, hi.below hb hi.lt⟩

theorem InsSl.form {w : World} {v : Value} {L : List Ins} (h : InsSl w v L) : ∃ a cap, v = .slice a L.length cap := let ⟨a, cap, e, _⟩ := h; ⟨a, cap, e⟩

theorem InsSl.nil (w : World) (a : Option Addr) (cap : Nat) : InsSl w (.slice a 0 cap) [] := ⟨a, cap, rfl, fun j hj => by simp at hj⟩

end Go.Proofs.Ytkhchmgdaolojaa.Cod
