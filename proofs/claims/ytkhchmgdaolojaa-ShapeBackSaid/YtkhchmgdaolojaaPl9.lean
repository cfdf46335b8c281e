
/-
  Layer 19: a clause's code in plain Lean; variables of other numbers come to the same code. No program stands here.
-/
import Derived.Test.YtkhchmgdaolojaaCodM
import Derived.Test.YtkhchmgdaolojaaNumP
namespace Go.Proofs.Ytkhchmgdaolojaa.Tms
open Go Go.RowKit Go.Proofs.Ytkhchmgdaolojaa.Cod
set_option linter.unusedVariables false

mutual
/-- the numbers of a term's variables, from the left -/
def occT : Tm → List Int
  | .mk k n _ a => if k = 1 then n :: occL a else occL a
def occL : List Tm → List Int
  | [] => []
  | t :: l => occT t ++ occL l
end
mutual
/-- a term's instructions, and the slots that were met: 'one': is a variable there just once? -/
def patT (one : Int → Bool) (S : List Int) : Tm → List Ins × List Int
  | .mk k n s a =>
    if k = 1 then (if one n = true then ([⟨1, 0, 0, ⟨#[]⟩⟩], S) else match place S n with
      | some p => ([⟨3, (p : Nat), 0, ⟨#[]⟩⟩], S)
      | none => ([⟨2, S.length, 0, ⟨#[]⟩⟩], S ++ [n]))
    else if k = 2 then ([⟨4, 0, n, ⟨#[]⟩⟩], S) else if k = 3 then ([⟨5, 0, 0, s⟩], S)
    else (⟨6, a.length, 0, s⟩ :: (patL one S a).1, (patL one S a).2)
def patL (one : Int → Bool) (S : List Int) : List Tm → List Ins × List Int
  | [] => ([], S)
  | t :: l => ((patT one S t).1 ++ (patL one (patT one S t).2 l).1, (patL one (patT one S t).2 l).2)
end
theorem place_map {φ : Int → Int} {V : Int → Prop} (hφ : ∀ x y, V x → V y → φ x = φ y → x = y) : ∀ (S : List Int) (n : Int), (∀ x ∈ S, V x) → V n → place (S.map φ) (φ n) = place S n
  | [], n, _, _ => rfl
  | x :: S, n, hS, hn => by
    have ih := place_map hφ S n (fun y hy => hS y (List.mem_cons_of_mem _ hy)) hn
    simp only [List.map_cons, place, ih]
    by_cases h : n = x
    · rw [if_pos h, if_pos (by rw [h])]
    · rw [if_neg h, if_neg fun e => h (hφ n x hn (hS x (by simp)) e)]
mutual
theorem patT_ren {φ : Int → Int} {V : Int → Prop} {one one' : Int → Bool} (hφ : ∀ x y, V x → V y → φ x = φ y → x = y) (h1 : ∀ n, V n → one' (φ n) = one n) :
    ∀ (t : Tm) (S : List Int), (∀ x ∈ S, V x) → (∀ n ∈ occT t, V n) → patT one' (S.map φ) (renT φ t) = ((patT one S t).1, (patT one S t).2.map φ) ∧ ∀ x ∈ (patT one S t).2, V x
  | .mk k n s a, S, hS, ht => by
    by_cases k1 : k = 1
    · have hn : V n := ht n (by simp [occT, k1])
      have hr : renT φ (.mk k n s a) = .mk k (φ n) s (renL φ a) := by simp [renT, k1]
      rw [hr]
      unfold patT
      rw [if_pos k1, if_pos k1, h1 n hn, place_map hφ S n hS hn]
      by_cases ho : one n = true
      · rw [if_pos ho, if_pos ho]; exact ⟨rfl, hS⟩
      · rw [if_neg ho, if_neg ho]
        cases place S n with
        | some p => exact ⟨rfl, hS⟩
        | none =>
          refine ⟨by simp, fun x hx => ?_⟩
          rcases List.mem_append.1 hx with hx | hx
          · exact hS x hx
          · rw [List.mem_singleton.1 hx]; exact hn
    · have hr : renT φ (.mk k n s a) = .mk k n s (renL φ a) := by simp [renT, k1]
      have ho : ∀ m ∈ occL a, V m := fun m hm => ht m (by simp [occT, k1, hm])
      have hl := patL_ren hφ h1 a S hS ho
      have hlen : (renL φ a).length = a.length := by
        have : ∀ l : List Tm, (renL φ l).length = l.length := by
          intro l
          induction l with
          | nil => simp [renL]
          | cons t l ih => simp [renL, ih]
        exact this a
      rw [hr]
      unfold patT
      rw [if_neg k1, if_neg k1]
      by_cases k2 : k = 2
      · rw [if_pos k2, if_pos k2]; exact ⟨rfl, hS⟩
      rw [if_neg k2, if_neg k2]
      by_cases k3 : k = 3
      · rw [if_pos k3, if_pos k3]; exact ⟨rfl, hS⟩
      rw [if_neg k3, if_neg k3, hl.1, hlen]
      exact ⟨rfl, hl.2⟩
theorem patL_ren {φ : Int → Int} {V : Int → Prop} {one one' : Int → Bool} (hφ : ∀ x y, V x → V y → φ x = φ y → x = y) (h1 : ∀ n, V n → one' (φ n) = one n) :
    ∀ (l : List Tm) (S : List Int), (∀ x ∈ S, V x) → (∀ n ∈ occL l, V n) → patL one' (S.map φ) (renL φ l) = ((patL one S l).1, (patL one S l).2.map φ) ∧ ∀ x ∈ (patL one S l).2, V x
  | [], S, hS, _ => by simp only [renL, patL]; exact ⟨trivial, hS⟩
  | t :: l, S, hS, hl => by
    have ht := patT_ren hφ h1 t S hS fun n hn => hl n (by simp [occL, hn])
    have hr := patL_ren hφ h1 l (patT one S t).2 ht.2 fun n hn => hl n (by simp [occL, hn])
    simp only [renL, patL, ht.1, hr.1]
    exact ⟨trivial, hr.2⟩
end
end Go.Proofs.Ytkhchmgdaolojaa.Tms
