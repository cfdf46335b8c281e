
/-
  The reference's Same of two terms, walked over the program.
-/
import Derived.Test.YtcmgfelbbmeanaaBas
import Derived.Test.YtcmgfelbbmeanaaReg
import Derived.Test.YtcmgfelbbmeanaaProg
namespace Go.Proofs.Ytcmgfelbbmeanaa.Tms
open Go Go.RowKit Go.Proofs.Ytcmgfelbbmeanaa.Reg

def Says (b : Bool) (w : World) (e : Ending) (w' : World) : Prop := e = .returned (.bool b) ∧ Below w.heap.size w w'
theorem says {a b : Bool} {w w' : World} (h : a = b) (hb : Below w.heap.size w w') : Says b w (.returned (.bool a)) w' := ⟨by rw [h], hb⟩

mutual
def sameT : Tm → Tm → Bool
  | .mk k n s a, .mk k' n' s' a' => k == k' && (n == n' && (s.toList == s'.toList && (a.length == a'.length && sameL a a')))
def sameL : List Tm → List Tm → Bool
  | [], [] => true
  | t :: ts, u :: us => sameT t u && sameL ts us
  | _, _ => false
end

mutual
def Tm.size : Tm → Nat
  | .mk _ _ _ a => sizeL a + 1
def sizeL : List Tm → Nat
  | [] => 0
  | t :: ts => t.size + sizeL ts
end
theorem size_mem : ∀ {ts : List Tm} {i : Nat} (h : i < ts.length), ts[i].size ≤ sizeL ts
  | t :: ts, 0, h => by simp only [List.getElem_cons_zero, sizeL]; omega
  | t :: ts, i + 1, h => by
    have := size_mem (ts := ts) (i := i) (by simpa using h)
    simp only [List.getElem_cons_succ, sizeL]; omega

theorem size_pos (t : Tm) : 0 < t.size := by obtain ⟨k, n, s, a⟩ := t; simp [Tm.size]
theorem len_le : ∀ (ts : List Tm), ts.length ≤ sizeL ts
  | [] => by simp [sizeL]
  | t :: ts => by have := len_le ts; have := size_pos t; simp only [List.length_cons, sizeL]; omega

theorem two (w : World) (a b : Obj) : ((w.alloc a).alloc b).heap[w.heap.size]? = some a ∧ ((w.alloc a).alloc b).heap[w.heap.size + 1]? = some b ∧ ((w.alloc a).alloc b).heap.size = w.heap.size + 2 ∧ Below w.heap.size w ((w.alloc a).alloc b) :=
  ⟨heap_alloc2_old w a b, heap_alloc2_new w a b, by simp, ((Below.refl _ _).alloc (Nat.le_refl _) _).alloc (by simp) _⟩
theorem row4 {w : World} {g : Nat} {y0 y1 y2 y3 : Value} {T : TypeId} {fr : Nat × Nat} (h : w.heap[g]? = some (.cells #[y0, y1, y2, y3] T fr)) :
    w.cell? ⟨g, 0, none⟩ = some y0 ∧ w.cell? ⟨g, 1, none⟩ = some y1 ∧ w.cell? ⟨g, 2, none⟩ = some y2 ∧ w.cell? ⟨g, 3, none⟩ = some y3 :=
  ⟨cell_of_row w g 0 _ _ _ h, cell_of_row w g 1 _ _ _ h, cell_of_row w g 2 _ _ _ h, cell_of_row w g 3 _ _ _ h⟩

theorem sameL_take : ∀ (a b : List Tm) (k : Nat) (ha : k < a.length) (hb : k < b.length), sameL (a.take k) (b.take k) = true → sameL (a.take (k + 1)) (b.take (k + 1)) = sameT a[k] b[k]
  | t :: ts, u :: us, 0, _, _, _ => by simp [sameL]
  | t :: ts, u :: us, k + 1, ha, hb, h => by
    simp only [List.take_succ_cons, sameL, Bool.and_eq_true, List.getElem_cons_succ] at h ⊢
    rw [h.1, Bool.true_and]
    exact sameL_take ts us k _ _ h.2
theorem sameL_no : ∀ (a b : List Tm) (k : Nat), sameL (a.take k) (b.take k) = false → a.length = b.length → sameL a b = false
  | [], [], k, h, _ => by cases k <;> simp [sameL] at h
  | t :: ts, u :: us, 0, h, _ => by simp [sameL] at h
  | t :: ts, u :: us, k + 1, h, hl => by
    simp only [List.take_succ_cons, sameL, Bool.and_eq_false_iff] at h ⊢
    rcases h with h | h
    · exact .inl h
    · exact .inr (sameL_no ts us k h (by simpa using hl))
  | [], u :: us, k, h, hl => by simp at hl
  | t :: ts, [], k, h, hl => by simp at hl

def SmRel (a b : List Tm) (W : World) (c : Value) (wr : World) : Prop := ∃ k : Nat, k ≤ a.length ∧ c = .int .i64 k ∧ sameL (a.take k) (b.take k) = true ∧ Below W.heap.size W wr

end Go.Proofs.Ytcmgfelbbmeanaa.Tms
