
/-
  Layer 20, plain: places of codes by their keys, brought together; how many keys there are.
-/
import Derived.Test.YtcmgfelbbmeanaaKmp
namespace Go.Proofs.Ytcmgfelbbmeanaa.Tms
open Go
set_option linter.unusedVariables false

section
variable {κ : Type}
/-- the places, from n on, of those that p takes -/
def posF (p : Option κ → Bool) : Int → List (Option κ) → List Int
  | _, [] => []
  | n, x :: L => if p x then n :: posF p (n + 1) L else posF p (n + 1) L
theorem posF_app (p : Option κ → Bool) : ∀ (L M : List (Option κ)) (n : Int), posF p n (L ++ M) = posF p n L ++ posF p (n + L.length) M
  | [], M, n => by simp [posF]
  | x :: L, M, n => by
    simp only [List.cons_append, posF, posF_app p L M (n + 1), List.length_cons]
    rw [show n + 1 + (L.length : Int) = n + ((L.length + 1 : Nat) : Int) by omega]
    split <;> simp
theorem posF_snoc (p : Option κ → Bool) (L : List (Option κ)) (x : Option κ) : posF p 0 (L ++ [x]) = if p x then posF p 0 L ++ [(L.length : Int)] else posF p 0 L := by
  rw [posF_app]
  simp only [posF, Int.zero_add]
  split <;> simp
theorem posF_shift (p : Option κ → Bool) : ∀ (L : List (Option κ)) (n k : Int), posF p (n + k) L = (posF p n L).map (· + k)
  | [], n, k => by simp [posF]
  | x :: L, n, k => by
    have ih := posF_shift p L (n + 1) k
    rw [show n + 1 + k = n + k + 1 by omega] at ih
    simp only [posF, ih]
    split <;> simp
theorem posF_ge (p : Option κ → Bool) : ∀ (L : List (Option κ)) (n : Int), ∀ x ∈ posF p n L, n ≤ x ∧ x < n + L.length
  | [], n, x, h => by simp [posF] at h
  | y :: L, n, x, h => by
    have ih := posF_ge p L (n + 1)
    simp only [posF] at h
    simp only [List.length_cons]
    split at h
    · simp only [List.mem_cons] at h
      rcases h with h | h
      · omega
      · have := ih x h; omega
    · have := ih x h; omega
theorem posF_len (p : Option κ → Bool) : ∀ (L : List (Option κ)) (n : Int), (posF p n L).length ≤ L.length
  | [], n => by simp [posF]
  | y :: L, n => by
    have ih := posF_len p L (n + 1)
    simp only [posF, List.length_cons]
    split
    · simp only [List.length_cons]; omega
    · omega
theorem posF_all (p : Option κ → Bool) (hp : ∀ x, p x = true) : ∀ (L : List (Option κ)) (n : Nat), posF p n L = (List.range' n L.length).map Int.ofNat
  | [], n => by simp [posF]
  | x :: L, n => by
    have ih := posF_all p hp L (n + 1)
    simp only [posF, hp x, if_true, List.length_cons, List.range'_succ, List.map_cons]
    rw [show ((n : Int) + 1) = ((n + 1 : Nat) : Int) by omega, ih]
    rfl
/-- two rows brought together -/
def mg : List Int → List Int → List Int
  | [], b => b
  | x :: a, [] => x :: a
  | x :: a, y :: b => if x < y then x :: mg a (y :: b) else y :: mg (x :: a) b
termination_by a b => a.length + b.length
theorem mg_nil (a : List Int) : mg a [] = a := by cases a <;> simp [mg]
theorem mg_lt {x : Int} {a b : List Int} (h : ∀ y ∈ b, x < y) : mg (x :: a) b = x :: mg a b := by
  cases b with
  | nil => simp [mg_nil]
  | cons y b => rw [mg, if_pos (h y (by simp))]
theorem mg_gt {y : Int} {a b : List Int} (h : ∀ x ∈ a, y < x) : mg a (y :: b) = y :: mg a b := by
  cases a with
  | nil => simp [mg]
  | cons x a => rw [mg, if_neg (by have := h x (by simp); omega)]
theorem mg_comm (a b : List Int) (h : ∀ x ∈ a, ¬ x ∈ b) : mg a b = mg b a := by
  match a, b with
  | [], b => rw [mg_nil]; simp [mg]
  | x :: a, [] => simp [mg]
  | x :: a, y :: b =>
    have hne : x ≠ y := fun e => h x (by simp) (by simp [e])
    have h1 : ∀ z ∈ a, ¬ z ∈ y :: b := fun z hz => h z (List.mem_cons_of_mem _ hz)
    have h2 : ∀ z ∈ x :: a, ¬ z ∈ b := fun z hz hb => h z hz (List.mem_cons_of_mem _ hb)
    by_cases hlt : x < y
    · rw [mg, if_pos hlt, mg, if_neg (by omega), mg_comm a (y :: b) h1]
    · rw [mg, if_neg hlt, mg, if_pos (by omega), mg_comm (x :: a) b h2]
termination_by a.length + b.length
theorem mg_pos (p q : Option κ → Bool) (hd : ∀ x, p x = true → q x = false) : ∀ (L : List (Option κ)) (n : Int), mg (posF p n L) (posF q n L) = posF (fun x => p x || q x) n L
  | [], n => by simp [posF, mg]
  | x :: L, n => by
    have ih := mg_pos p q hd L (n + 1)
    have gp := posF_ge p L (n + 1)
    have gq := posF_ge q L (n + 1)
    cases hp : p x with
    | true =>
      have hq := hd x hp
      simp only [posF, hp, hq, if_true, Bool.true_or, Bool.false_eq_true, if_false]
      rw [mg_lt (fun y hy => by have := gq y hy; omega), ih]
    | false =>
      cases hq : q x with
      | true =>
        simp only [posF, hp, hq, if_true, Bool.or_true, Bool.false_eq_true, if_false]
        rw [mg_gt (fun y hy => by have := gp y hy; omega), ih]
      | false => simp only [posF, hp, hq, Bool.or_false, Bool.false_eq_true, if_false, ih]
theorem pos_apart (p q : Option κ → Bool) (hd : ∀ x, p x = true → q x = false) : ∀ (L : List (Option κ)) (n : Int), ∀ x ∈ posF p n L, ¬ x ∈ posF q n L
  | [], n, x, h => by simp [posF] at h
  | y :: L, n, x, h => by
    have gp := posF_ge p L (n + 1)
    have gq := posF_ge q L (n + 1)
    have ih := pos_apart p q hd L (n + 1)
    simp only [posF] at h ⊢
    cases hp : p y with
    | true =>
      have hq := hd y hp
      rw [hp, if_pos rfl] at h
      rw [hq, if_neg (by simp)]
      simp only [List.mem_cons] at h
      rcases h with rfl | h
      · intro hx; have := gq _ hx; omega
      · exact ih x h
    | false =>
      rw [hp, if_neg (by simp)] at h
      split
      · intro hx
        simp only [List.mem_cons] at hx
        rcases hx with rfl | hx
        · have := gp _ h; omega
        · exact ih x h hx
      · exact ih x h
/-- what a heap of two rows holds, the lesser first one first -/
def mgQ : List (List Int) → List Int
  | [] => []
  | [a] => a
  | a :: b :: _ => mg a b
structure HpOk (Q : List (List Int)) : Prop where
  two : Q.length ≤ 2
  ne : ∀ a ∈ Q, a ≠ []
  lt : ∀ a b, Q = [a, b] → ∀ x y, a.head? = some x → b.head? = some y → x < y
  ap : ∀ a b, Q = [a, b] → ∀ x ∈ a, ¬ x ∈ b
  so : ∀ a ∈ Q, a.Pairwise (· < ·)
theorem posF_sorted (p : Option κ → Bool) : ∀ (L : List (Option κ)) (n : Int), (posF p n L).Pairwise (· < ·)
  | [], n => by simp [posF]
  | y :: L, n => by
    have ih := posF_sorted p L (n + 1)
    have g := posF_ge p L (n + 1)
    simp only [posF]
    split
    · exact List.pairwise_cons.2 ⟨fun x hx => by have := g x hx; omega, ih⟩
    · exact ih
section
variable [DecidableEq κ]
def noneP (x : Option κ) : Bool := x.isNone
def isP (k : κ) (x : Option κ) : Bool := decide (x = some k)
def fitP (q : Option κ) (x : Option κ) : Bool := x.isNone || (q.isSome && decide (x = q))
theorem noneP_isP (k : κ) (x : Option κ) (h : noneP x = true) : isP k x = false := by
  cases x with
  | none => simp [isP]
  | some y => simp [noneP] at h
theorem fit_some (k : κ) : (fun x => noneP x || isP k x) = fitP (some k) := by
  funext x
  simp [noneP, isP, fitP]
theorem fit_none : (noneP : Option κ → Bool) = fitP none := by
  funext x
  simp [noneP, fitP]
/-- the keys, each once -/
def keyStep (acc : List κ) (x : Option κ) : List κ := match x with
  | none => acc
  | some k => if k ∈ acc then acc else acc ++ [k]
def keysO (L : List (Option κ)) : List κ := L.foldl keyStep []
theorem keysO_snoc (L : List (Option κ)) (x : Option κ) : keysO (L ++ [x]) = keyStep (keysO L) x := by simp [keysO]
theorem keyStep_mem (acc : List κ) (x : Option κ) (k : κ) : k ∈ keyStep acc x ↔ k ∈ acc ∨ x = some k := by
  unfold keyStep
  cases x with
  | none => simp
  | some y =>
    by_cases h : y ∈ acc
    · simp only [h, if_true]
      constructor
      · exact .inl
      · rintro (h' | h')
        · exact h'
        · simp only [Option.some.injEq] at h'; rw [← h']; exact h
    · simp only [h, if_false, List.mem_append, List.mem_singleton, Option.some.injEq]
      constructor
      · rintro (h' | h')
        · exact .inl h'
        · exact .inr h'.symm
      · rintro (h' | h')
        · exact .inl h'
        · exact .inr h'.symm
theorem foldl_mem (k : κ) : ∀ (L : List (Option κ)) (acc : List κ), k ∈ L.foldl keyStep acc ↔ k ∈ acc ∨ some k ∈ L
  | [], acc => by simp
  | x :: L, acc => by
    rw [List.foldl_cons, foldl_mem k L, keyStep_mem]
    simp only [List.mem_cons]
    constructor
    · rintro ((h | h) | h)
      · exact .inl h
      · exact .inr (.inl h.symm)
      · exact .inr (.inr h)
    · rintro (h | h | h)
      · exact .inl (.inl h)
      · exact .inl (.inr h.symm)
      · exact .inr h
theorem keysO_mem (L : List (Option κ)) (k : κ) : k ∈ keysO L ↔ some k ∈ L := by
  unfold keysO; rw [foldl_mem]; simp
theorem keyStep_nodup {acc : List κ} (h : acc.Nodup) (x : Option κ) : (keyStep acc x).Nodup := by
  unfold keyStep
  cases x with
  | none => exact h
  | some k =>
    show (if k ∈ acc then acc else acc ++ [k]).Nodup
    split
    · exact h
    · rename_i hk
      exact List.nodup_append.2 ⟨h, by simp, fun a ha b hb => by simp only [List.mem_singleton] at hb; rw [hb]; exact fun e => hk (e ▸ ha)⟩
theorem foldl_nodup : ∀ (L : List (Option κ)) (acc : List κ), acc.Nodup → (L.foldl keyStep acc).Nodup
  | [], acc, h => h
  | x :: L, acc, h => foldl_nodup L _ (keyStep_nodup h x)
theorem keysO_nodup (L : List (Option κ)) : (keysO L).Nodup := foldl_nodup L [] (by simp)
theorem keyStep_len (acc : List κ) (x : Option κ) : acc.length ≤ (keyStep acc x).length ∧ (keyStep acc x).length ≤ acc.length + 1 := by
  unfold keyStep
  cases x with
  | none => simp
  | some k =>
    show acc.length ≤ (if k ∈ acc then acc else acc ++ [k]).length ∧ _
    by_cases h : k ∈ acc
    · simp [h]
    · simp [h]
theorem keysO_len (L : List (Option κ)) : (keysO L).length ≤ L.length := by
  suffices h : ∀ (L : List (Option κ)) (acc : List κ), (L.foldl keyStep acc).length ≤ acc.length + L.length by
    have := h L []; simpa [keysO] using this
  intro L
  induction L with
  | nil => intro acc; simp
  | cons x L ih => intro acc; have := ih (keyStep acc x); have := keyStep_len acc x; simp only [List.foldl_cons, List.length_cons]; omega
theorem nodup_sub_len : ∀ {a b : List κ}, a.Nodup → (∀ x ∈ a, x ∈ b) → a.length ≤ b.length
  | [], b, _, _ => by simp
  | x :: a, b, h, hs => by
    have hx := hs x (by simp)
    have h' := List.nodup_cons.1 h
    have := nodup_sub_len (a := a) (b := b.erase x) h'.2 fun y hy => by
      have hne : y ≠ x := fun e => h'.1 (e ▸ hy)
      exact (List.mem_erase_of_ne hne).2 (hs y (List.mem_cons_of_mem _ hy))
    rw [List.length_erase_of_mem hx] at this
    have hp : 0 < b.length := List.length_pos_of_mem hx
    simp only [List.length_cons]
    omega
theorem keysO_two (L M : List (Option κ)) : (keysO (L ++ M)).length ≤ (keysO L).length + (keysO M).length ∧ (keysO L).length ≤ (keysO (L ++ M)).length ∧ (keysO M).length ≤ (keysO (L ++ M)).length := by
  refine ⟨?_, nodup_sub_len (keysO_nodup _) fun k hk => ?_, nodup_sub_len (keysO_nodup _) fun k hk => ?_⟩
  · rw [← List.length_append]
    refine nodup_sub_len (keysO_nodup _) fun k hk => ?_
    rw [keysO_mem, List.mem_append] at hk
    rw [List.mem_append, keysO_mem, keysO_mem]
    exact hk
  · rw [keysO_mem] at hk ⊢; exact List.mem_append_left _ hk
  · rw [keysO_mem] at hk ⊢; exact List.mem_append_right _ hk
end
end
end Go.Proofs.Ytcmgfelbbmeanaa.Tms
