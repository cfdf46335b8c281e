
/-
  A reading without parts of kind 0 does not pass a zero row (a new variable); what is made good has none.
  A reading passes only blocks that are there. No condition.
-/
import Derived.Test.YtkhchmgdaolojaaDoorGnb
import Derived.Test.YtkhchmgdaolojaaDoorMend
namespace Go.Proofs.YtkhchmgdaolojaaDoor.Tms
open Go Go.RowKit Go.Proofs.YtkhchmgdaolojaaDoor.Reg

mutual
/-- no part is of kind 0 -/
def Tm.ok : Tm → Bool
  | .mk k _ _ a => k != 0 && okL a
def okL : List Tm → Bool
  | [] => true
  | t :: l => t.ok && okL l
end
mutual
theorem mendT_ok : ∀ t : Tm, (mendT t).ok = true
  | .mk k n s a => by
    have h := mendL_ok a
    unfold mendT
    repeat' split
    all_goals simp [Tm.ok, okL, atomA, atomT, h]
theorem mendL_ok : ∀ l : List Tm, okL (mendL l) = true
  | [] => by simp [mendL, okL]
  | t :: l => by simp [mendL, okL, mendT_ok t, mendL_ok l]
end
mutual
/-- a reading without parts of kind 0 does not pass a zero row -/
theorem TmAt.avoid {w : World} {P : Nat → Prop} {g : Nat} {T : TypeId} {fr : Nat × Nat} (hz : w.heap[g]? = some (.cells #[.int .i64 0, .int .i64 0, .string ⟨#[]⟩, .slice none 0 0] T fr)) : ∀ (t : Tm) (b o : Nat), t.ok = true → TmAt w P b o t → b ≠ g ∧ TmAt w (fun x => P x ∧ x ≠ g) b o t
  | .mk k n s a, b, o, hok, h => by
    simp only [Tm.ok, Bool.and_eq_true, bne_iff_ne] at hok
    unfold TmAt at h ⊢
    obtain ⟨q, c, h0, h1, h2, h3, h4⟩ := h
    refine ⟨fun e => ?_, q, c, h0, h1, h2, h3, ArgsFrom.avoid hz a q 0 hok.2 h4⟩
    subst e
    rw [cell_of_row w b _ _ _ _ hz] at h0
    match o with
    | 0 => simp at h0; exact hok.1 h0.symm
    | 1 => simp at h0; exact hok.1 h0.symm
    | 2 => simp at h0
    | 3 => simp at h0
    | o + 4 => simp at h0
theorem ArgsFrom.avoid {w : World} {P : Nat → Prop} {g : Nat} {T : TypeId} {fr : Nat × Nat} (hz : w.heap[g]? = some (.cells #[.int .i64 0, .int .i64 0, .string ⟨#[]⟩, .slice none 0 0] T fr)) : ∀ (l : List Tm) (q : Option Addr) (j : Nat), okL l = true → ArgsFrom w P q j l → ArgsFrom w (fun x => P x ∧ x ≠ g) q j l
  | [], q, j, _, _ => by unfold ArgsFrom; trivial
  | t :: l, q, j, hok, h => by
    simp only [okL, Bool.and_eq_true] at hok
    unfold ArgsFrom at h ⊢
    obtain ⟨⟨b, off, e, hp, ht⟩, h2⟩ := h
    obtain ⟨hne, ht'⟩ := TmAt.avoid hz t b _ hok.1 ht
    exact ⟨⟨b, off, e, ⟨hp, hne⟩, ht'⟩, ArgsFrom.avoid hz l q (j + 1) hok.2 h2⟩
end
theorem IsTm.avoid {w : World} {P : Nat → Prop} {g : Nat} {T : TypeId} {fr : Nat × Nat} (hz : w.heap[g]? = some (.cells #[.int .i64 0, .int .i64 0, .string ⟨#[]⟩, .slice none 0 0] T fr)) {v : Value} {t : Tm} (hok : t.ok = true) (h : IsTm w P v t) : IsTm w (fun x => P x ∧ x ≠ g) v t := by
  obtain ⟨a, c, e, h⟩ := h
  obtain ⟨k, n, s, l⟩ := t
  simp only [Tm.ok, Bool.and_eq_true] at hok
  exact ⟨a, c, e, ArgsFrom.avoid hz _ a 0 hok.2 h⟩

/-- this value reads as this term -/
def AnyTm (u : World) (v : Value) (t : Tm) : Prop := ∃ P, IsTm u P v t
theorem AnyTm.below {u u' : World} {v : Value} {t : Tm} (h : AnyTm u v t) (hb : Below u.heap.size u u') : AnyTm u' v t := let ⟨P, h⟩ := h; ⟨P, h.below hb⟩

end Go.Proofs.YtkhchmgdaolojaaDoor.Tms
namespace Go.Proofs.YtkhchmgdaolojaaDoor.Tms
open Go Go.RowKit Go.Proofs.YtkhchmgdaolojaaDoor.Reg
set_option linter.unusedVariables false
set_option linter.unusedSimpArgs false

mutual
theorem TmAt.low {w : World} {P : Nat → Prop} : ∀ (t : Tm) (b o : Nat), TmAt w P b o t → b < w.heap.size ∧ TmAt w (fun x => P x ∧ x < w.heap.size) b o t
  | .mk k n s a, b, o, h => by
    have hlt : b < w.heap.size := by obtain ⟨_, _, _, _, _, _, _, hlt⟩ := h.read; exact hlt
    unfold TmAt at h ⊢
    obtain ⟨q, c, h0, h1, h2, h3, h4⟩ := h
    exact ⟨hlt, q, c, h0, h1, h2, h3, ArgsFrom.low a q 0 h4⟩
theorem ArgsFrom.low {w : World} {P : Nat → Prop} : ∀ (l : List Tm) (q : Option Addr) (j : Nat), ArgsFrom w P q j l → ArgsFrom w (fun x => P x ∧ x < w.heap.size) q j l
  | [], q, j, _ => by unfold ArgsFrom; trivial
  | t :: l, q, j, h => by
    unfold ArgsFrom at h ⊢
    obtain ⟨⟨b, off, e, hp, ht⟩, h2⟩ := h
    obtain ⟨hlt, ht'⟩ := TmAt.low t b _ ht
    exact ⟨⟨b, off, e, ⟨hp, hlt⟩, ht'⟩, ArgsFrom.low l q (j + 1) h2⟩
end
theorem IsTm.low {w : World} {P : Nat → Prop} {v : Value} {t : Tm} (h : IsTm w P v t) : IsTm w (fun x => P x ∧ x < w.heap.size) v t := by
  obtain ⟨a, c, e, h⟩ := h
  exact ⟨a, c, e, ArgsFrom.low _ a 0 h⟩
theorem IsSl.low {w : World} {P : Nat → Prop} {v : Value} {l : List Tm} (h : IsSl w P v l) : IsSl w (fun x => P x ∧ x < w.heap.size) v l := by
  obtain ⟨a, c, e, h⟩ := h
  exact ⟨a, c, e, ArgsFrom.low _ a 0 h⟩

end Go.Proofs.YtkhchmgdaolojaaDoor.Tms
