
/-
  A region that draws its order, walked in one order but for two operations that may come in either order (two new variables, for instance): both ways are walked.
-/
import Derived.Test.YtmlceamcpelklaaChm
namespace Go.Proofs.Ytmlceamcpelklaa.Reg
open Go Go.RowKit Go.Instr
set_option linter.unusedVariables false
section
variable {P : Program} {ops : Array Oper} {Q : Exit → Act → World → Prop}

inductive SN where
  | soft (i : Nat) | one (i : Nat) | two (i j : Nat)
inductive St where
  | soft (o : Oper) | one (o : Oper) | two (o o' : Oper)
def flatN : List SN → List (Bool × Nat)
  | [] => []
  | .soft i :: r => (false, i) :: flatN r
  | .one i :: r => (true, i) :: flatN r
  | .two i j :: r => (true, i) :: (true, j) :: flatN r
def fits (l : List Oper) : List SN → List St → Prop
  | [], [] => True
  | .soft i :: r, .soft o :: s => l[i]? = some o ∧ fits l r s
  | .one i :: r, .one o :: s => l[i]? = some o ∧ fits l r s
  | .two i j :: r, .two o o' :: s => l[i]? = some o ∧ l[j]? = some o' ∧ fits l r s
  | _, _ => False
def waitB (ops : Array Oper) (i : Nat) (todo : List (Bool × Nat)) : Bool := todo.all fun x => (preds ops x.2).any fun j => j == i || todo.any fun y => y.2 == j
def stB (P : Program) (ops : Array Oper) (k : Nat) : List Nat → List SN → Bool
  | _, [] => true
  | done, .soft i :: r =>
    (match ops[i]? with
    | some o => softB P o && (flatN r).all fun x => (preds ops x.2).contains i || (match ops[x.2]? with
      | some ox => o.apart ops ox
      | none => false)
    | none => false) && readyIn ops k done i && stB P ops k (i :: done) r
  | done, .one i :: r => readyIn ops k done i && waitB ops i (flatN r) && stB P ops k (i :: done) r
  | done, .two i j :: r => readyIn ops k done i && readyIn ops k done j && waitB ops i (flatN r) && waitB ops j (flatN r) && stB P ops k (j :: i :: done) r && stB P ops k (i :: j :: done) r

def One (P : Program) (ops : Array Oper) (S : World → Prop) (o : Oper) (C : Act → World → Prop) (a : Act) (w : World) : Prop := ∀ E : Exit → Act → World → Prop, (∀ a' w', S w' ∧ C a' w' → E .normal a' w') → wpList P ops E [o] a w
def ChainW (P : Program) (ops : Array Oper) (K : Act → World → Prop) (S : World → Prop) : List St → Act → World → Prop
  | [], a, w => K a w
  | .soft o :: r, a, w => ∃ a1, putOk o a = true ∧ (∀ u, S u → ∀ E : Exit → Act → World → Prop, (∀ a', a' = a1 → E .normal a' u) → wpList P ops E [o] a u) ∧ ChainW P ops K S r a1 w
  | .one o :: r, a, w => One P ops S o (ChainW P ops K S r) a w
  | .two o o' :: r, a, w => One P ops S o (One P ops S o' (ChainW P ops K S r)) a w ∧ One P ops S o' (One P ops S o (ChainW P ops K S r)) a w
theorem chainW_nil {K : Act → World → Prop} {S : World → Prop} {a : Act} {w : World} (h : K a w) : ChainW P ops K S [] a w := h
theorem chainW_soft {K : Act → World → Prop} {S : World → Prop} {a a1 : Act} {w : World} {o : Oper} {r : List St} (hp : putOk o a = true)
    (h : ∀ u, S u → ∀ E : Exit → Act → World → Prop, (∀ a', a' = a1 → E .normal a' u) → wpList P ops E [o] a u) (hr : ChainW P ops K S r a1 w) : ChainW P ops K S (.soft o :: r) a w := ⟨a1, hp, h, hr⟩
theorem chainW_one {K : Act → World → Prop} {S : World → Prop} {a : Act} {w : World} {o : Oper} {r : List St} (h : ∀ E : Exit → Act → World → Prop, (∀ a' w', S w' ∧ ChainW P ops K S r a' w' → E .normal a' w') → wpList P ops E [o] a w) : ChainW P ops K S (.one o :: r) a w := h
theorem chainW_two {K : Act → World → Prop} {S : World → Prop} {a : Act} {w : World} {o o' : Oper} {r : List St} (h1 : One P ops S o (One P ops S o' (ChainW P ops K S r)) a w) (h2 : One P ops S o' (One P ops S o (ChainW P ops K S r)) a w) : ChainW P ops K S (.two o o' :: r) a w := ⟨h1, h2⟩

theorem At.swap {k n : Nat} {done : List Nat} {b b' : Bool} {i j : Nat} {todo : List (Bool × Nat)} {L : Array Bool} (h : At ops k n done ((b, i) :: (b', j) :: todo) L) : At ops k n done ((b', j) :: (b, i) :: todo) L where
  size := h.size
  low := h.low
  high := h.high
  did := h.did
  yet := fun x hx => h.yet x (by simp only [List.mem_cons] at hx ⊢; rcases hx with hx | hx | hx <;> simp [hx])
  all := fun q hq hn => (h.all q hq hn).imp_right fun ⟨x, hx, e⟩ => ⟨x, by simp only [List.mem_cons] at hx ⊢; rcases hx with hx | hx | hx <;> simp [hx], e⟩
  nodup := by
    have := h.nodup
    simp only [List.map_cons, List.nodup_cons, List.mem_cons, not_or] at this ⊢
    exact ⟨⟨Ne.symm this.1.1, this.2.1⟩, this.1.2, this.2.2⟩
  le := h.le
theorem At.only2 {k n : Nat} {done : List Nat} {i i' : Nat} {todo : List (Bool × Nat)} {L : Array Bool} (h : At ops k n done ((true, i) :: (true, i') :: todo) L) (hc : waitB ops i todo = true)
    {j : Nat} (hj : j < n) (hr : j ∈ Region.ready .any ops L) : j = i ∨ j = i' := by
  obtain ⟨hu, o, ho, hall⟩ := mem_ready.1 hr
  rcases Nat.lt_or_ge j k with hk | hk
  · rw [h.low j hk] at hu; cases hu
  rcases h.all j hk hj with hd | ⟨x, hx, e⟩
  · rw [h.did j hd] at hu; cases hu
  rcases List.mem_cons.1 hx with rfl | hx
  · exact .inl e.symm
  rcases List.mem_cons.1 hx with rfl | hx
  · exact .inr e.symm
  exfalso
  subst e
  have := List.all_eq_true.1 hc x hx
  obtain ⟨q, hq, hq2⟩ := List.any_eq_true.1 this
  have hl := preds_listed ho hall q hq
  have hqf : L.getD q true = false := by
    simp only [Bool.or_eq_true, beq_iff_eq, List.any_eq_true] at hq2
    rcases hq2 with rfl | ⟨y, hy, rfl⟩
    · exact (h.yet _ (List.mem_cons_self ..)).1
    · exact (h.yet y (List.mem_cons_of_mem _ (List.mem_cons_of_mem _ hy))).1
  rw [getD_both_true hl] at hqf
  cases hqf

theorem chain_anyW {S : World → Prop} {k n : Nat} {K : Act → World → Prop} (hB : backB ops = true) (hsel : Region.noSelect ops = true) : ∀ (gs : List SN) (os : List St) (done : List Nat) (L : Array Bool) (a : Act) (w : World),
    fits ops.toList gs os → stB P ops k done gs = true → At ops k n done (flatN gs) L → S w → ChainW P ops K S os a w →
    AnyS P ops n (fun _ => K) S (flatN gs).length L a w := by
  intro gs
  induction gs with
  | nil =>
    intro os done L a w hp _ _ _ h
    cases os with
    | nil => exact h
    | cons x os => exact hp.elim
  | cons x gs ih =>
    intro os done L a w hp hc hat hS h
    cases os with
    | nil => cases x <;> exact hp.elim
    | cons y os =>
    cases x with
    | one i =>
      cases y with
      | one o =>
        obtain ⟨ho, hp⟩ := hp
        have ho : ops[i]? = some o := by simpa using ho
        simp only [stB, Bool.and_eq_true] at hc
        obtain ⟨⟨hr, ha⟩, hc⟩ := hc
        have hx := h (only fun a' w' => S w' ∧ ChainW P ops K S os a' w') fun a' w' hch => hch
        intro j hj hjr
        obtain rfl := hat.only ha hj hjr
        exact wpOp_mono (fun a' w' h' => ⟨h'.1, ih os _ _ a' w' hp hc hat.next h'.1 h'.2⟩) (wpList_one ho hx)
      | soft o => exact hp.elim
      | two o o' => exact hp.elim
    | two i i' =>
      cases y with
      | two o o' =>
        obtain ⟨ho, ho', hp⟩ := hp
        have ho : ops[i]? = some o := by simpa using ho
        have ho' : ops[i']? = some o' := by simpa using ho'
        simp only [stB, Bool.and_eq_true] at hc
        obtain ⟨⟨⟨⟨⟨hr, hr'⟩, ha⟩, ha'⟩, hc⟩, hc'⟩ := hc
        obtain ⟨h1, h2⟩ := h
        have hx1 := h1 (only fun a' w' => S w' ∧ One P ops S o' (ChainW P ops K S os) a' w') fun a' w' hch => hch
        have hx2 := h2 (only fun a' w' => S w' ∧ One P ops S o (ChainW P ops K S os) a' w') fun a' w' hch => hch
        intro j hj hjr
        rcases hat.only2 ha hj hjr with rfl | rfl
        · refine wpOp_mono (fun a' w' h' => ⟨h'.1, ?_⟩) (wpList_one ho hx1)
          have hy := h'.2 (only fun a' w' => S w' ∧ ChainW P ops K S os a' w') fun a' w' hch => hch
          intro q hq hqr
          obtain rfl := hat.next.only ha' hq hqr
          exact wpOp_mono (fun a' w' h' => ⟨h'.1, ih os _ _ a' w' hp hc hat.next.next h'.1 h'.2⟩) (wpList_one ho' hy)
        · refine wpOp_mono (fun a' w' h' => ⟨h'.1, ?_⟩) (wpList_one ho' hx2)
          have hy := h'.2 (only fun a' w' => S w' ∧ ChainW P ops K S os a' w') fun a' w' hch => hch
          intro q hq hqr
          obtain rfl := hat.swap.next.only ha hq hqr
          exact wpOp_mono (fun a' w' h' => ⟨h'.1, ih os _ _ a' w' hp hc' hat.swap.next.next h'.1 h'.2⟩) (wpList_one ho hy)
      | soft o => exact hp.elim
      | one o => exact hp.elim
    | soft i =>
      cases y with
      | soft o =>
        obtain ⟨ho, hp⟩ := hp
        have ho : ops[i]? = some o := by simpa using ho
        obtain ⟨a1, hpo, hx, hrest⟩ := h
        have hcnt := hat.count
        simp only [flatN, List.length_cons] at hcnt ⊢
        simp only [stB, ho, Bool.and_eq_true] at hc
        obtain ⟨⟨⟨hso, hfree⟩, hr⟩, hc⟩ := hc
        obtain ⟨v, hy, rfl⟩ := yields_all hso hpo hS hx
        refine AnyS.first (hat.yet _ (List.mem_cons_self ..)).2.1 ho (Region.noSelect_spec hsel) _ L a w hcnt ?_ (hat.ready hB ho hr) hy hS (ih os _ _ _ w hp hc hat.next hS hrest)
        intro j oj hjn hoj hji hun hno
        have hjk : k ≤ j := by
          rcases Nat.lt_or_ge j k with h | h
          · rw [hat.low j h] at hun; cases hun
          · exact h
        rcases hat.all j hjk hjn with hd | ⟨x, hx, rfl⟩
        · rw [hat.did j hd] at hun; cases hun
        rcases List.mem_cons.1 hx with rfl | hx
        · exact absurd rfl hji
        have := List.all_eq_true.1 hfree x hx
        simp only [Bool.or_eq_true, hoj] at this
        rcases this with hp | hp
        · exfalso
          simp only [preds, hoj, List.contains_iff_mem, List.mem_map, List.mem_filter] at hp
          obtain ⟨e, ⟨he, hb⟩, hon⟩ := hp
          exact hno e (by simpa using he) hb hon
        · exact hp
      | one o => exact hp.elim
      | two o o' => exact hp.elim
/-- A REGION THAT DRAWS ITS ORDER, FROM k UP TO n, WALKED IN ONE ORDER BUT FOR PAIRS, S HOLDING THROUGHOUT -/
theorem rest_chainW (S : World → Prop) (k n : Nat) (gs : List SN) (os : List St) {l : List Oper} (hp : fits l gs os)
    (hB : backB l.toArray = true) (hsel : Region.noSelect l.toArray = true) (hc : stB P l.toArray k [] gs = true)
    (hs : (decide (k ≤ n) && decide (n ≤ l.length) && ((flatN gs).all fun x => decide (k ≤ x.2) && decide (x.2 < n)) && ((List.range n).all fun i => decide (i < k) || (flatN gs).any fun x => x.2 == i) && decide ((flatN gs).length = n - k) && nodupB ((flatN gs).map (·.2))) = true)
    (hcut : n = l.toArray.size ∨ cutB l.toArray k n = true) {a : Act} {w : World} (hS : S w)
    (h : ChainW P l.toArray (Rest P l.toArray Q n) S os a w) : Rest P l.toArray Q k a w := by
  simp only [Bool.and_eq_true, decide_eq_true_eq, List.all_eq_true, List.mem_range, Bool.or_eq_true, List.any_eq_true, beq_iff_eq] at hs
  obtain ⟨⟨⟨⟨⟨hkn, hnl⟩, hin⟩, hall⟩, hlen⟩, hnd⟩ := hs
  replace hnd := nodupB_spec _ hnd
  refine rest_anyS (S := S) hB (by simpa using hnl) hkn hcut fun L g hl ht => ?_
  have := chain_anyW (n := n) hB hsel gs os [] L a w (by simpa using hp) hc ⟨g.size, hl, fun i hi hs => ?_, fun i hi => by simp at hi, fun x hx => ?_, fun i hki hi => ?_, hnd, by simpa using hnl⟩ hS h
  · rw [hlen] at this
    exact this
  · have := ht i (by omega)
    have hlt : i < L.size := by rw [g.size]; exact hs
    simp [hlt] at this ⊢
    exact this
  · have hx' := hin x hx
    have := ht x.2 hx'.1
    have hlt : x.2 < L.size := by rw [g.size]; simp; omega
    refine ⟨?_, hx'.2, hx'.1⟩
    simp [hlt] at this ⊢
    exact this
  · rcases hall i hi with h | ⟨x, hx, e⟩
    · omega
    · exact .inr ⟨x, hx, e⟩
end
end Go.Proofs.Ytmlceamcpelklaa.Reg
