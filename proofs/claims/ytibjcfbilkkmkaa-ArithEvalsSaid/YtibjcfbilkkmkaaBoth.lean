
/-
  A stack of pairs of terms that the call itself keeps: what it owns, and what it reads as. The order of terms, plain.
-/
import Derived.Test.YtibjcfbilkkmkaaTs
import Derived.Test.YtibjcfbilkkmkaaTmC
import Derived.Test.YtibjcfbilkkmkaaGnb
namespace Go.Proofs.Ytibjcfbilkkmkaa.Tms
open Go Go.RowKit
set_option linter.unusedVariables false

mutual
/-- the order of terms: the parts from the left, each ahead of its Args -/
def cmpT : Tm → Tm → Int
  | .mk k n s a, .mk k' n' s' a' => if cmpHead (.mk k n s a) (.mk k' n' s' a') ≠ 0 then cmpHead (.mk k n s a) (.mk k' n' s' a') else cmpL a a'
def cmpL : List Tm → List Tm → Int
  | t :: ts, u :: us => if cmpT t u ≠ 0 then cmpT t u else cmpL ts us
  | _, _ => 0
end
/-- of pairs, the first that differ -/
def cmpP : List (Tm × Tm) → Int
  | [] => 0
  | p :: l => if cmpT p.1 p.2 ≠ 0 then cmpT p.1 p.2 else cmpP l
theorem cmpP_app : ∀ (l m : List (Tm × Tm)), cmpP (l ++ m) = if cmpP l ≠ 0 then cmpP l else cmpP m
  | [], m => by simp [cmpP]
  | p :: l, m => by
    simp only [List.cons_append, cmpP, cmpP_app l m]
    by_cases h : cmpT p.1 p.2 = 0 <;> simp [h]
theorem cmpL_zip : ∀ (a b : List Tm), a.length = b.length → cmpL a b = cmpP (a.zip b)
  | [], [], _ => by simp [cmpL, cmpP]
  | t :: ts, u :: us, h => by simp only [cmpL, List.zip_cons_cons, cmpP, cmpL_zip ts us (by simpa using h)]
theorem cmpHead_len {t u : Tm} (h : cmpHead t u = 0) : t.args.length = u.args.length := by
  have key : ∀ a b : Int, cmpI a b = 0 → a = b := fun a b h => by
    unfold cmpI at h
    by_cases h1 : a < b
    · rw [if_pos h1] at h; omega
    · by_cases h2 : b < a
      · rw [if_neg h1, if_pos h2] at h; omega
      · omega
  unfold cmpHead at h
  by_cases q1 : cmpI t.k u.k = 0
  · by_cases q2 : cmpI t.args.length u.args.length = 0
    · have := key _ _ q2; omega
    · rw [if_neg (by simpa using q1), if_pos q2] at h; exact absurd h q2
  · rw [if_pos q1] at h; exact absurd h q1

def flatP : List (Tm × Tm) → List Tm
  | [] => []
  | p :: l => p.1 :: p.2 :: flatP l
theorem flatP_app : ∀ l m, flatP (l ++ m) = flatP l ++ flatP m
  | [], m => rfl
  | p :: l, m => by simp [flatP, flatP_app l m]
theorem flatP_len : ∀ l, (flatP l).length = 2 * l.length
  | [] => rfl
  | p :: l => by simp [flatP, flatP_len l]; omega

theorem CellsOf.len {w : World} {P : Nat → Prop} : ∀ {xs : List Value} {ts : List Tm}, CellsOf w P xs ts → xs.length = 4 * ts.length
  | [], [], _ => rfl
  | _ :: _ :: _ :: _ :: _, _ :: _, ⟨_, _, _, _, h⟩ => by have := CellsOf.len h; simp; omega
  | [], _ :: _, h => h.elim
  | _ :: [], [], h => h.elim
  | _ :: [], _ :: _, h => h.elim
  | _ :: _ :: [], [], h => h.elim
  | _ :: _ :: [], _ :: _, h => h.elim
  | _ :: _ :: _ :: [], [], h => h.elim
  | _ :: _ :: _ :: [], _ :: _, h => h.elim
  | _ :: _ :: _ :: _ :: _, [], h => h.elim
theorem CellsOf.split {w : World} {P : Nat → Prop} : ∀ {us : List Tm} {xs : List Value} {ts : List Tm}, CellsOf w P xs (us ++ ts) → ∃ ys zs, xs = ys ++ zs ∧ CellsOf w P ys us ∧ CellsOf w P zs ts
  | [], xs, ts, h => ⟨[], xs, rfl, trivial, h⟩
  | u :: us, k :: n :: s :: l :: rest, ts, ⟨h1, h2, h3, h4, h5⟩ => by
    obtain ⟨ys, zs, e, h6, h7⟩ := CellsOf.split h5
    exact ⟨k :: n :: s :: l :: ys, zs, by simp [e], ⟨h1, h2, h3, h4, h6⟩, h7⟩
  | _ :: _, [], _, h => h.elim
  | _ :: _, _ :: [], _, h => h.elim
  | _ :: _, _ :: _ :: [], _, h => h.elim
  | _ :: _, _ :: _ :: _ :: [], _, h => h.elim
theorem CellsOf.join {w : World} {P : Nat → Prop} : ∀ {ys zs : List Value} {us ts : List Tm}, CellsOf w P ys us → CellsOf w P zs ts → CellsOf w P (ys ++ zs) (us ++ ts)
  | [], zs, [], ts, _, h => h
  | k :: n :: s :: l :: rest, zs, u :: us, ts, ⟨h1, h2, h3, h4, h5⟩, h => ⟨h1, h2, h3, h4, CellsOf.join h5 h⟩
  | [], _, _ :: _, _, h, _ => h.elim
  | _ :: [], _, [], _, h, _ => h.elim
  | _ :: [], _, _ :: _, _, h, _ => h.elim
  | _ :: _ :: [], _, [], _, h, _ => h.elim
  | _ :: _ :: [], _, _ :: _, _, h, _ => h.elim
  | _ :: _ :: _ :: [], _, [], _, h, _ => h.elim
  | _ :: _ :: _ :: [], _, _ :: _, _, h, _ => h.elim
  | _ :: _ :: _ :: _ :: _, _, [], _, h, _ => h.elim

end Go.Proofs.Ytibjcfbilkkmkaa.Tms
