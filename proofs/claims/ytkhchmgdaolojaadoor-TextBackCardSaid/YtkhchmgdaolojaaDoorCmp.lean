
/-
  term.compare of the program (two parts, but for their Args), walked; cmp.Compare of numbers.
  A stack of pairs of terms that the call itself keeps: what it owns, and what it reads as. The order of terms, plain.
  term.Compare of the program walked: the order of terms.
-/
import Derived.Test.YtkhchmgdaolojaaDoorShl
import Derived.Test.YtkhchmgdaolojaaDoorSame
import Derived.Lib.Bytealg
import Derived.Test.YtkhchmgdaolojaaDoorTs
import Derived.Test.YtkhchmgdaolojaaDoorGnb
import Derived.Deep.LoopGhost
namespace Go.Proofs.YtkhchmgdaolojaaDoor.Tms
open Go Go.RowKit

def cmpI (a b : Int) : Int := if a < b then -1 else if b < a then 1 else 0

/-- two parts, but for their Args -/
def cmpHead (a b : Tm) : Int :=
  if cmpI a.k b.k ≠ 0 then cmpI a.k b.k else if cmpI a.args.length b.args.length ≠ 0 then cmpI a.args.length b.args.length else if cmpI a.n b.n ≠ 0 then cmpI a.n b.n else Lib.compareBytes a.s.data.toList b.s.data.toList

end Go.Proofs.YtkhchmgdaolojaaDoor.Tms
namespace Go.Proofs.YtkhchmgdaolojaaDoor.Tms
open Go Go.RowKit
set_option linter.unusedVariables false

mutual
/-- the order of terms: the parts from the left, each ahead of its Args -/
def cmpT : Tm → Tm → Int
  | .mk k n s a, .mk k' n' s' a' => if cmpHead (.mk k n s a) (.mk k' n' s' a') ≠ 0 then cmpHead (.mk k n s a) (.mk k' n' s' a') else cmpL a a'
def cmpL : List Tm → List Tm → Int
  | t :: ts, u :: us => if cmpT t u ≠ 0 then cmpT t u else cmpL ts us
  | _, _ => 0
end
/-- of pairs, the first that differ -/
def cmpP : List (Tm × Tm) → Int
  | [] => 0
  | p :: l => if cmpT p.1 p.2 ≠ 0 then cmpT p.1 p.2 else cmpP l
theorem cmpP_app : ∀ (l m : List (Tm × Tm)), cmpP (l ++ m) = if cmpP l ≠ 0 then cmpP l else cmpP m
  | [], m => by simp [cmpP]
  | p :: l, m => by
    simp only [List.cons_append, cmpP, cmpP_app l m]
    by_cases h : cmpT p.1 p.2 = 0 <;> simp [h]
theorem cmpL_zip : ∀ (a b : List Tm), a.length = b.length → cmpL a b = cmpP (a.zip b)
  | [], [], _ => by simp [cmpL, cmpP]
  | t :: ts, u :: us, h => by simp only [cmpL, List.zip_cons_cons, cmpP, cmpL_zip ts us (by simpa using h)]
theorem cmpHead_len {t u : Tm} (h : cmpHead t u = 0) : t.args.length = u.args.length := by
  have key : ∀ a b : Int, cmpI a b = 0 → a = b := fun a b h => by
    unfold cmpI at h
    by_cases h1 : a < b
    · rw [if_pos h1] at h; omega
    · by_cases h2 : b < a
      · rw [if_neg h1, if_pos h2] at h; omega
      · omega
  unfold cmpHead at h
  by_cases q1 : cmpI t.k u.k = 0
  · by_cases q2 : cmpI t.args.length u.args.length = 0
    · have := key _ _ q2; omega
    · rw [if_neg (by simpa using q1), if_pos q2] at h; exact absurd h q2
  · rw [if_pos q1] at h; exact absurd h q1

def flatP : List (Tm × Tm) → List Tm
  | [] => []
  | p :: l => p.1 :: p.2 :: flatP l
theorem flatP_app : ∀ l m, flatP (l ++ m) = flatP l ++ flatP m
  | [], m => rfl
  | p :: l, m => by simp [flatP, flatP_app l m]
theorem flatP_len : ∀ l, (flatP l).length = 2 * l.length
  | [] => rfl
  | p :: l => by simp [flatP, flatP_len l]; omega

theorem CellsOf.len {w : World} {P : Nat → Prop} : ∀ {xs : List Value} {ts : List Tm}, CellsOf w P xs ts → xs.length = 4 * ts.length
  | [], [], _ => rfl
  | _ :: _ :: _ :: _ :: _, _ :: _, ⟨_, _, _, _, h⟩ => by have := CellsOf.len h; simp; omega
  | [], _ :: _, h => h.elim
  | _ :: [], [], h => h.elim
  | _ :: [], _ :: _, h => h.elim
  | _ :: _ :: [], [], h => h.elim
  | _ :: _ :: [], _ :: _, h => h.elim
  | _ :: _ :: _ :: [], [], h => h.elim
  | _ :: _ :: _ :: [], _ :: _, h => h.elim
  | _ :: _ :: _ :: _ :: _, [], h => h.elim
theorem CellsOf.split {w : World} {P : Nat → Prop} : ∀ {us : List Tm} {xs : List Value} {ts : List Tm}, CellsOf w P xs (us ++ ts) → ∃ ys zs, xs = ys ++ zs ∧ CellsOf w P ys us ∧ CellsOf w P zs ts
  | [], xs, ts, h => ⟨[], xs, rfl, trivial, h⟩
  | u :: us, k :: n :: s :: l :: rest, ts, ⟨h1, h2, h3, h4, h5⟩ => by
    obtain ⟨ys, zs, e, h6, h7⟩ := CellsOf.split h5
    exact ⟨k :: n :: s :: l :: ys, zs, by simp [e], ⟨h1, h2, h3, h4, h6⟩, h7⟩
  | _ :: _, [], _, h => h.elim
  | _ :: _, _ :: [], _, h => h.elim
  | _ :: _, _ :: _ :: [], _, h => h.elim
  | _ :: _, _ :: _ :: _ :: [], _, h => h.elim
theorem CellsOf.join {w : World} {P : Nat → Prop} : ∀ {ys zs : List Value} {us ts : List Tm}, CellsOf w P ys us → CellsOf w P zs ts → CellsOf w P (ys ++ zs) (us ++ ts)
  | [], zs, [], ts, _, h => h
  | k :: n :: s :: l :: rest, zs, u :: us, ts, ⟨h1, h2, h3, h4, h5⟩, h => ⟨h1, h2, h3, h4, CellsOf.join h5 h⟩
  | [], _, _ :: _, _, h, _ => h.elim
  | _ :: [], _, [], _, h, _ => h.elim
  | _ :: [], _, _ :: _, _, h, _ => h.elim
  | _ :: _ :: [], _, [], _, h, _ => h.elim
  | _ :: _ :: [], _, _ :: _, _, h, _ => h.elim
  | _ :: _ :: _ :: [], _, [], _, h, _ => h.elim
  | _ :: _ :: _ :: [], _, _ :: _, _, h, _ => h.elim
  | _ :: _ :: _ :: _ :: _, _, [], _, h, _ => h.elim

end Go.Proofs.YtkhchmgdaolojaaDoor.Tms
namespace Go.Proofs.YtkhchmgdaolojaaDoor.Tms
open Go Go.RowKit Go.Proofs.YtkhchmgdaolojaaDoor.Reg
set_option linter.unusedVariables false

def sumP : List (Tm × Tm) → Nat
  | [] => 0
  | p :: l => p.1.size + sumP l
theorem sumP_app : ∀ l m, sumP (l ++ m) = sumP l + sumP m
  | [], m => by simp [sumP]
  | p :: l, m => by simp [sumP, sumP_app l m]; omega
theorem len_sumP : ∀ l : List (Tm × Tm), l.length ≤ sumP l
  | [] => by simp
  | p :: l => by have := len_sumP l; have := size_pos p.1; simp [sumP]; omega

abbrev Lo (P P' : Nat → Prop) (B : Nat) : Nat → Prop := fun b => (P b ∨ P' b) ∧ b < B
theorem sumP_rev : ∀ l, sumP l.reverse = sumP l
  | [] => rfl
  | p :: l => by simp [sumP, sumP_app, sumP_rev l]; omega
theorem sumP_zip : ∀ a b : List Tm, sumP (a.zip b) ≤ sizeL a
  | [], b => by simp [sumP]
  | t :: ts, [] => by simp [sumP]
  | t :: ts, u :: us => by have := sumP_zip ts us; simp only [List.zip_cons_cons, sumP, sizeL]; omega
theorem cmp_turn {t u x y : Tm} {l : List (Tm × Tm)} (h : cmpP (l ++ [(x, y)]).reverse = cmpT t u) (h0 : cmpHead x y = 0) : cmpP (l ++ (x.args.zip y.args).reverse).reverse = cmpT t u := by
  have hl := cmpHead_len h0
  have hT : cmpT x y = cmpP (x.args.zip y.args) := by
    rw [← cmpL_zip _ _ hl]
    obtain ⟨k1, n1, s1, a1⟩ := x
    obtain ⟨k2, n2, s2, a2⟩ := y
    rw [cmpT, if_neg (by simpa using h0)]
    rfl
  rw [← h, List.reverse_append, List.reverse_append, List.reverse_reverse, List.reverse_singleton, cmpP_app, List.singleton_append]
  show _ = (if cmpT x y ≠ 0 then cmpT x y else _)
  rw [hT]

end Go.Proofs.YtkhchmgdaolojaaDoor.Tms
