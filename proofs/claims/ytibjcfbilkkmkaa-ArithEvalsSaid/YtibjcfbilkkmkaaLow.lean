
/-
  A reading passes only blocks that are there. No condition.
-/
import Derived.Test.YtibjcfbilkkmkaaAvd
namespace Go.Proofs.Ytibjcfbilkkmkaa.Tms
open Go Go.RowKit Go.Proofs.Ytibjcfbilkkmkaa.Reg
set_option linter.unusedVariables false
set_option linter.unusedSimpArgs false

mutual
theorem TmAt.low {w : World} {P : Nat → Prop} : ∀ (t : Tm) (b o : Nat), TmAt w P b o t → b < w.heap.size ∧ TmAt w (fun x => P x ∧ x < w.heap.size) b o t
  | .mk k n s a, b, o, h => by
    have hlt : b < w.heap.size := by obtain ⟨_, _, _, _, _, _, _, hlt⟩ := h.read; exact hlt
    unfold TmAt at h ⊢
    obtain ⟨q, c, h0, h1, h2, h3, h4⟩ := h
    exact ⟨hlt, q, c, h0, h1, h2, h3, ArgsFrom.low a q 0 h4⟩
theorem ArgsFrom.low {w : World} {P : Nat → Prop} : ∀ (l : List Tm) (q : Option Addr) (j : Nat), ArgsFrom w P q j l → ArgsFrom w (fun x => P x ∧ x < w.heap.size) q j l
  | [], q, j, _ => by unfold ArgsFrom; trivial
  | t :: l, q, j, h => by
    unfold ArgsFrom at h ⊢
    obtain ⟨⟨b, off, e, hp, ht⟩, h2⟩ := h
    obtain ⟨hlt, ht'⟩ := TmAt.low t b _ ht
    exact ⟨⟨b, off, e, ⟨hp, hlt⟩, ht'⟩, ArgsFrom.low l q (j + 1) h2⟩
end
theorem IsTm.low {w : World} {P : Nat → Prop} {v : Value} {t : Tm} (h : IsTm w P v t) : IsTm w (fun x => P x ∧ x < w.heap.size) v t := by
  obtain ⟨a, c, e, h⟩ := h
  exact ⟨a, c, e, ArgsFrom.low _ a 0 h⟩
theorem IsSl.low {w : World} {P : Nat → Prop} {v : Value} {l : List Tm} (h : IsSl w P v l) : IsSl w (fun x => P x ∧ x < w.heap.size) v l := by
  obtain ⟨a, c, e, h⟩ := h
  exact ⟨a, c, e, ArgsFrom.low _ a 0 h⟩

/-- without parts of kind 0, or nothing at all: a reading does not pass a zero row -/
theorem IsTm.avoidZ {w : World} {P : Nat → Prop} {g : Nat} {T : TypeId} {fr : Nat × Nat} (hz : w.heap[g]? = some (.cells #[.int .i64 0, .int .i64 0, .string ⟨#[]⟩, .slice none 0 0] T fr)) {v : Value} {t : Tm} (hok : t.ok = true ∨ t.args = []) (h : IsTm w P v t) : IsTm w (fun x => P x ∧ x ≠ g) v t := by
  rcases hok with hok | hz
  · exact h.avoid hz hok
  · obtain ⟨a, c, e, h⟩ := h
    exact ⟨a, c, e, by rw [hz]; unfold ArgsFrom; trivial⟩
end Go.Proofs.Ytibjcfbilkkmkaa.Tms
