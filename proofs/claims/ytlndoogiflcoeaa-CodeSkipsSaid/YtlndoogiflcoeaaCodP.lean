/-
  Plain facts on codes: what the check of a whole code comes to.
-/
import Derived.Test.YtlndoogiflcoeaaCodW4
namespace Go.Proofs.Ytlndoogiflcoeaa.Cod
open Go Go.RowKit

/-- where so many patterns, from the first on, end -/
def pfw (L : List Ins) : Nat → Option Nat
  | 0 => some 0
  | i + 1 => match pfw L i with
    | none => none
    | some a => if skip L a < 0 then none else some (skip L a).toNat

theorem pfw_none {L : List Ins} {i n : Nat} (h : pfw L i = none) (hn : i ≤ n) : pfw L n = none := by
  obtain ⟨d, rfl⟩ : ∃ d, n = i + d := ⟨n - i, by omega⟩
  clear hn
  induction d with
  | zero => exact h
  | succ d ih => show pfw L (i + d + 1) = none; unfold pfw; rw [ih]
theorem pfw_le {L : List Ins} : ∀ {i a : Nat}, pfw L i = some a → a ≤ L.length
  | 0, a, h => by simp [pfw] at h; omega
  | i + 1, a, h => by
    unfold pfw at h
    cases h1 : pfw L i with
    | none => simp [h1] at h
    | some q =>
      simp only [h1] at h
      split at h
      · cases h
      · have := skip_hi L q
        simp at h
        omega
theorem pfw_succ {L : List Ins} {i a : Nat} (h : pfw L i = some a) : pfw L (i + 1) = if skip L a < 0 then none else some (skip L a).toNat := by
  show (match pfw L i with | none => none | some a => if skip L a < 0 then none else some (skip L a).toNat) = _
  rw [h]

theorem sk_good : ∀ (l : List Ins) (n j : Nat), sk l n = some j → ∀ i ∈ l.take j, i.bad = false
  | l, 0, j, h => by rw [sk_zero] at h; cases h; simp
  | [], n + 1, j, h => by simp [sk] at h
  | i :: l, n + 1, j, h => by
    unfold sk at h
    cases hb : i.bad with
    | true => simp [hb] at h
    | false =>
      simp only [hb, Bool.false_eq_true, if_false] at h
      cases h1 : sk l (n + i.ar) with
      | none => simp [h1] at h
      | some q =>
        simp only [h1, Option.map_some, Option.some.injEq] at h
        subst h
        intro x hx
        simp only [List.take_succ_cons, List.mem_cons] at hx
        rcases hx with rfl | hx
        · exact hb
        · exact sk_good l _ q h1 x hx

theorem skip_good {L : List Ins} {a : Nat} (h : 0 ≤ skip L a) (ha : ∀ i ∈ L.take a, i.bad = false) : ∀ i ∈ L.take (skip L a).toNat, i.bad = false := by
  rw [skip_nat] at h ⊢
  unfold skA at h ⊢
  cases h1 : sk (L.drop a) 1 with
  | none => simp [h1] at h
  | some j =>
    simp only [] 
    have hj := sk_good _ _ _ h1
    intro i hi
    rw [show ((a : Int) + (j : Int)).toNat = a + j from by omega, List.take_add] at hi
    rcases List.mem_append.1 hi with h | h
    · exact ha i h
    · exact hj i h
theorem pfw_good {L : List Ins} : ∀ {i a : Nat}, pfw L i = some a → ∀ x ∈ L.take a, x.bad = false
  | 0, a, h => by simp [pfw] at h; subst h; simp
  | i + 1, a, h => by
    cases h1 : pfw L i with
    | none => rw [pfw_none h1 (Nat.le_succ i)] at h; cases h
    | some q =>
      rw [pfw_succ h1] at h
      split at h
      · cases h
      · simp at h; subst h
        exact skip_good (by omega) (pfw_good h1)
theorem bad_op {i : Ins} (h : i.bad = false) : 1 ≤ i.op ∧ i.op ≤ 6 := by
  simp [Ins.bad] at h; omega
theorem all_good {L : List Ins} {n a : Nat} (h : pfw L n = some a) (hs : skip L a = L.length) : ∀ i ∈ L, i.bad = false := by
  have := skip_good (L := L) (a := a) (by omega) (pfw_good h)
  rw [hs] at this
  simpa using this
theorem all_op {L : List Ins} {n a : Nat} (h : pfw L n = some a) (hs : skip L a = L.length) : ∀ i ∈ L, 1 ≤ i.op ∧ i.op ≤ 6 := fun i hi => bad_op (all_good h hs i hi)

def tailB (c : Cod) (a : Nat) : Bool := decide ((a : Int) = c.body) && (decide (skip c.l a = c.l.length) && (c.l.all Ins.ok && slotsOk c.l c.slots))
def check (c : Cod) : Int :=
  if 20000 < c.l.length then 3 else if c.args < 0 ∨ 255 < c.args ∨ 1000 < c.name.size ∨ c.slots < 0 then 2 else
  match pfw c.l c.args.toNat with
  | none => 2
  | some a => if tailB c a then 0 else 2

theorem check_long {c : Cod} (h : 20000 < c.l.length) : check c = 3 := by simp [check, h]
theorem check_head {c : Cod} (h : ¬ 20000 < c.l.length) (hh : c.args < 0 ∨ 255 < c.args ∨ 1000 < c.name.size ∨ c.slots < 0) : check c = 2 := by simp [check, h, hh]
theorem check_rest {c : Cod} (h : ¬ 20000 < c.l.length) (hh : ¬ (c.args < 0 ∨ 255 < c.args ∨ 1000 < c.name.size ∨ c.slots < 0)) :
    check c = match pfw c.l c.args.toNat with | none => 2 | some a => if tailB c a then 0 else 2 := by simp [check, h, hh]
theorem check_none {c : Cod} (h : ¬ 20000 < c.l.length) (hh : ¬ (c.args < 0 ∨ 255 < c.args ∨ 1000 < c.name.size ∨ c.slots < 0)) {i : Nat} (hp : pfw c.l i = none) (hi : i ≤ c.args.toNat) : check c = 2 := by
  rw [check_rest h hh, pfw_none hp hi]
theorem check_some {c : Cod} (h : ¬ 20000 < c.l.length) (hh : ¬ (c.args < 0 ∨ 255 < c.args ∨ 1000 < c.name.size ∨ c.slots < 0)) {a : Nat} (hp : pfw c.l c.args.toNat = some a) : check c = if tailB c a then 0 else 2 := by
  rw [check_rest h hh, hp]
end Go.Proofs.Ytlndoogiflcoeaa.Cod
