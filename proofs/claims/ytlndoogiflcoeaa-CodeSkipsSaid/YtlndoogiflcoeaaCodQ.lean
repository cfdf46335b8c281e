/-
  Plain facts on codes that may be: with an instruction less, one more, or another slot, they may not be; a pattern ends where it ends, whatever stands behind it.
-/
import Derived.Test.YtlndoogiflcoeaaCodP
namespace Go.Proofs.Ytlndoogiflcoeaa.Cod
open Go Go.RowKit

theorem sk_append : ∀ (l x : List Ins) (n j : Nat), sk l n = some j → sk (l ++ x) n = some j
  | l, x, 0, j, h => by rw [sk_zero] at h ⊢; exact h
  | [], x, n + 1, j, h => by simp [sk] at h
  | i :: l, x, n + 1, j, h => by
    rw [List.cons_append]
    unfold sk at h ⊢
    cases hb : i.bad with
    | true => simp [hb] at h
    | false =>
      simp only [hb, Bool.false_eq_true, if_false] at h ⊢
      cases h1 : sk l (n + i.ar) with
      | none => simp [h1] at h
      | some q => rw [sk_append l x _ q h1]; rw [h1] at h; exact h
theorem skip_append {L x : List Ins} {q : Nat} (hq : q ≤ L.length) (h : 0 ≤ skip L q) : skip (L ++ x) q = skip L q := by
  rw [skip_nat] at h ⊢
  rw [skip_nat]
  unfold skA at h ⊢
  rw [List.drop_append_of_le_length hq]
  cases h1 : sk (L.drop q) 1 with
  | none => simp [h1] at h
  | some j => rw [sk_append _ x 1 j h1]
theorem skip_gt {L : List Ins} {q : Nat} (h : 0 ≤ skip L q) : (q : Int) < skip L q ∧ q < L.length := by
  constructor
  · rw [skip_nat] at h ⊢
    unfold skA at h ⊢
    cases h1 : sk (L.drop q) 1 with
    | none => simp [h1] at h
    | some j => have := sk_pos _ _ _ h1; simp only []; omega
  · rcases Nat.lt_or_ge q L.length with h1 | h1
    · exact h1
    · rw [skip_past L q (by omega)] at h; omega
theorem pfw_append {L x : List Ins} : ∀ {n a : Nat}, pfw L n = some a → pfw (L ++ x) n = some a
  | 0, a, h => h
  | n + 1, a, h => by
    cases h1 : pfw L n with
    | none => rw [pfw_none h1 (Nat.le_succ n)] at h; cases h
    | some q =>
      rw [pfw_succ h1] at h
      split at h
      · cases h
      · rename_i hs
        rw [pfw_succ (pfw_append h1), skip_append (pfw_le h1) (by omega), if_neg hs]
        exact h

structure Fine (c : Cod) (a : Nat) : Prop where
  len : c.l.length ≤ 20000
  args : 0 ≤ c.args ∧ c.args ≤ 255
  name : c.name.size ≤ 1000
  slots : 0 ≤ c.slots
  pats : pfw c.l c.args.toNat = some a
  body : (a : Int) = c.body
  ends : skip c.l a = c.l.length
  oks : c.l.all Ins.ok = true
  sl : slotsOk c.l c.slots = true

theorem fine_of {c : Cod} (h : check c = 0) : ∃ a, Fine c a := by
  by_cases h1 : 20000 < c.l.length
  · rw [check_long h1] at h; cases h
  by_cases h2 : c.args < 0 ∨ 255 < c.args ∨ 1000 < c.name.size ∨ c.slots < 0
  · rw [check_head h1 h2] at h; cases h
  rw [check_rest h1 h2] at h
  cases h3 : pfw c.l c.args.toNat with
  | none => simp [h3] at h
  | some a =>
    simp only [h3] at h
    cases h4 : tailB c a with
    | false => simp [h4] at h
    | true =>
      simp only [tailB, Bool.and_eq_true, decide_eq_true_eq] at h4
      exact ⟨a, by omega, by omega, by omega, by omega, h3, h4.1, h4.2.1, h4.2.2.1, h4.2.2.2⟩

theorem check_two {c : Cod} (h1 : c.l.length ≤ 20000) (h2 : 0 ≤ c.args ∧ c.args ≤ 255 ∧ c.name.size ≤ 1000 ∧ 0 ≤ c.slots) (h : ∀ a, pfw c.l c.args.toNat = some a → tailB c a = false) : check c = 2 := by
  rw [check_rest (by omega) (by omega)]
  cases h3 : pfw c.l c.args.toNat with
  | none => rfl
  | some a => simp only [h a h3]; rfl

theorem Fine.ne {c : Cod} {a : Nat} (h : Fine c a) : 0 < c.l.length := by
  have := (skip_gt (L := c.l) (q := a) (by rw [h.ends]; omega)).2; omega

theorem check_less {c : Cod} {a : Nat} (h : Fine c a) : check { c with l := c.l.take (c.l.length - 1) } = 2 := by
  have hn := h.ne
  have hL : c.l = c.l.take (c.l.length - 1) ++ c.l.drop (c.l.length - 1) := (List.take_append_drop _ _).symm
  have hlen : (c.l.take (c.l.length - 1)).length = c.l.length - 1 := by simp
  refine check_two (by have := h.len; simp only [hlen]; omega) ⟨h.args.1, h.args.2, h.name, h.slots⟩ fun a' ha' => ?_
  cases ht : tailB { c with l := c.l.take (c.l.length - 1) } a' with
  | false => rfl
  | true =>
    simp only [tailB, Bool.and_eq_true, decide_eq_true_eq] at ht
    have h1 := pfw_append (x := c.l.drop (c.l.length - 1)) ha'
    simp only [← hL] at h1
    rw [h.pats] at h1
    obtain rfl := Option.some.inj h1
    have h2 := skip_append (x := c.l.drop (c.l.length - 1)) (pfw_le ha') (by rw [ht.2.1]; omega)
    rw [← hL, h.ends, ht.2.1, hlen] at h2
    omega
theorem check_more {c : Cod} {a : Nat} (h : Fine c a) (x : Ins) (hl : c.l.length ≤ 19999) : check { c with l := c.l ++ [x] } = 2 := by
  refine check_two (by simp; omega) ⟨h.args.1, h.args.2, h.name, h.slots⟩ fun a' ha' => ?_
  have h1 := pfw_append (x := [x]) h.pats
  simp only [] at ha'
  rw [h1] at ha'
  obtain rfl := Option.some.inj ha'
  have h2 := skip_append (x := [x]) (pfw_le h.pats) (by rw [h.ends]; omega)
  have : ¬ skip (c.l ++ [x]) a = ((c.l ++ [x]).length : Int) := by rw [h2, h.ends]; simp; omega
  show (decide _ && (decide (skip (c.l ++ [x]) a = _) && _)) = false
  rw [decide_eq_false this]; simp
theorem check_slot {c : Cod} {a : Nat} (h : Fine c a) : check { c with slots := c.slots + 1 } = 2 := by
  refine check_two h.len ⟨h.args.1, h.args.2, h.name, by have := h.slots; simp only []; omega⟩ fun a' _ => ?_
  have h1 := h.sl
  have : slotsOk c.l (c.slots + 1) = false := by
    unfold slotsOk at h1 ⊢
    cases hs : slotsN c.l 0 with
    | none => rfl
    | some n => simp [hs] at h1 ⊢; omega
  simp [tailB, this]
theorem slotsN_le : ∀ (l : List Ins) (n m : Nat), slotsN l n = some m → m ≤ n + l.length
  | [], n, m, h => by simp [slotsN] at h; omega
  | i :: l, n, m, h => by
    unfold slotsN at h
    split at h
    · split at h
      · have := slotsN_le l _ _ h; simp only [List.length_cons]; omega
      · cases h
    · split at h
      · cases h
      · have := slotsN_le l _ _ h; simp only [List.length_cons]; omega
theorem Fine.slots_le {c : Cod} {a : Nat} (h : Fine c a) : c.slots ≤ c.l.length := by
  have h1 := h.sl
  unfold slotsOk at h1
  cases hs : slotsN c.l 0 with
  | none => simp [hs] at h1
  | some n => have := slotsN_le _ _ _ hs; simp [hs] at h1; omega

/-- the last one, the body, too -/
theorem Fine.last {c : Cod} {a : Nat} (h : Fine c a) : pfw c.l (c.args.toNat + 1) = some c.l.length := by
  rw [pfw_succ h.pats, h.ends, if_neg (by omega)]; simp
/-- the loop's step -/
theorem Fine.step {c : Cod} {a k q : Nat} (h : Fine c a) (hk : k ≤ c.args.toNat) (hq : pfw c.l k = some q) : q < c.l.length ∧ 0 ≤ skip c.l q ∧ pfw c.l (k + 1) = some (skip c.l q).toNat := by
  have h0 : 0 ≤ skip c.l q := by
    by_cases h1 : skip c.l q < 0
    · have := pfw_none (pf_stop' hq h1) (show k + 1 ≤ c.args.toNat + 1 by omega)
      rw [h.last] at this; cases this
    · omega
  exact ⟨(skip_gt h0).2, h0, by rw [pfw_succ hq, if_neg (by omega)]⟩
where
  pf_stop' {L : List Ins} {i a : Nat} (h : pfw L i = some a) (hs : skip L a < 0) : pfw L (i + 1) = none := by rw [pfw_succ h, if_pos hs]
end Go.Proofs.Ytlndoogiflcoeaa.Cod
