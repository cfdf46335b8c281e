
/-
  A region that draws its order, walked in one order, where later operations may write into what earlier ones made (a row that grows in place): what is only looked at is looked at ahead of all of them, in blocks below B.
  A region that draws its order, walked in one order, where some operations write into memory that was there: what is only looked at is looked at in every world that meets S, and every operation that writes keeps S.
-/
import Derived.Test.YtmlceamcpelklaaChn
namespace Go.Proofs.Ytmlceamcpelklaa.Reg
open Go Go.RowKit Go.Instr
section
variable {P : Program} {ops : Array Oper} {Q : Exit → Act → World → Prop}

def ChainB (P : Program) (ops : Array Oper) (K : Act → World → Prop) (B : Nat) : List (Bool × List Oper) → Act → World → Prop
  | [], a, w => K a w
  | (false, g) :: r, a, w => w.heap.size ≤ B ∧ ∀ E : Exit → Act → World → Prop, (∀ a', ChainB P ops K B r a' w → E .normal a' w) → wpList P ops E g a w
  | (true, g) :: r, a, w => ∀ E : Exit → Act → World → Prop, (∀ a' w', Below B w w' ∧ ChainB P ops K B r a' w' → E .normal a' w') → wpList P ops E g a w
theorem chainB_nil {K : Act → World → Prop} {B : Nat} {a : Act} {w : World} (h : K a w) : ChainB P ops K B [] a w := h
theorem chainB_soft {K : Act → World → Prop} {B : Nat} {a : Act} {w : World} {g : List Oper} {r : List (Bool × List Oper)} (hB : w.heap.size ≤ B) (h : ∀ E : Exit → Act → World → Prop, (∀ a', ChainB P ops K B r a' w → E .normal a' w) → wpList P ops E g a w) : ChainB P ops K B ((false, g) :: r) a w := ⟨hB, h⟩
theorem chainB_one {K : Act → World → Prop} {B : Nat} {a : Act} {w : World} {g : List Oper} {r : List (Bool × List Oper)} (h : ∀ E : Exit → Act → World → Prop, (∀ a' w', Below B w w' ∧ ChainB P ops K B r a' w' → E .normal a' w') → wpList P ops E g a w) : ChainB P ops K B ((true, g) :: r) a w := h
theorem YieldsIf.of {S S' : World → Prop} {o : Oper} {v : Value} {a : Act} (h : YieldsIf P ops S o v a) (hS : ∀ w, S' w → S w) : YieldsIf P ops S' o v a := h.imp (fun h => ⟨h.1, fun w hw => h.2 w (hS w hw)⟩) fun h => h
theorem chain_anyB {B k n : Nat} {K : Act → World → Prop} (hB : backB ops = true) (hsel : Region.noSelect ops = true) : ∀ (gs : List (Bool × List Nat)) (os : List (Bool × List Oper)) (done : List Nat) (L : Array Bool) (a : Act) (w : World),
    pick ops.toList gs = some' os → onesB gs = true → chainB P ops k done (flatG gs) = true → At ops k n done (flatG gs) L → ChainB P ops K B os a w →
    AnyS P ops n (fun _ => K) (fun w' => Below B w w') (flatG gs).length L a w := by
  intro gs
  induction gs with
  | nil =>
    intro os done L a w hp _ _ _ h
    cases os with
    | nil => exact h
    | cons x os => cases hp
  | cons x gs ih =>
    intro os done L a w hp h1 hc hat h
    cases os with
    | nil => cases hp
    | cons y os =>
    obtain ⟨b, g⟩ := x
    obtain ⟨b', g'⟩ := y
    simp only [pick, some', List.map_cons, List.cons.injEq, Prod.mk.injEq] at hp
    obtain ⟨⟨rfl, hg⟩, hp⟩ := hp
    cases b with
    | true =>
      cases g with
      | nil => cases h1
      | cons i g =>
      cases g with
      | cons _ _ => cases h1
      | nil =>
      cases g' with
      | nil => cases hg
      | cons o g' =>
      cases g' with
      | cons _ _ => simp at hg
      | nil =>
        simp only [List.map_cons, List.map_nil, List.cons.injEq, and_true] at hg
        have ho : ops[i]? = some o := by simpa using hg
        have hf : flatG ((true, [i]) :: gs) = (true, i) :: flatG gs := rfl
        rw [hf] at hc hat ⊢
        simp only [chainB, Bool.and_eq_true] at hc
        obtain ⟨⟨hr, ha⟩, hc⟩ := hc
        have hx := h (only fun a' w' => Below B w w' ∧ ChainB P ops K B os a' w') fun a' w' hch => hch
        rw [List.length_cons]
        intro j hj hjr
        obtain rfl := hat.only ha hj hjr
        refine wpOp_mono (fun a' w' h' => ⟨h'.1, ?_⟩) (wpList_one ho hx)
        exact AnyS.mono (fun w'' hb => h'.1.trans hb) _ _ _ _ (ih os _ _ a' w' hp h1 hc hat.next h'.2)
    | false =>
      obtain ⟨hwB, h⟩ := h
      have hx := h (only fun a' w' => w' = w ∧ ChainB P ops K B os a' w) fun a' hch => ⟨rfl, hch⟩
      clear h
      have key : ∀ (g : List Nat) (g' : List Oper) (done : List Nat) (L : Array Bool) (a : Act), g.map (fun i => ops.toList[i]?) = g'.map some → chainB P ops k done (flatG ((false, g) :: gs)) = true → At ops k n done (flatG ((false, g) :: gs)) L →
          wpList P ops (only fun a' w' => w' = w ∧ ChainB P ops K B os a' w) g' a w → AnyS P ops n (fun _ => K) (fun w' => Below B w w') (flatG ((false, g) :: gs)).length L a w := by
        intro g
        induction g with
        | nil =>
          intro g' done L a hg hc hat hx
          cases g' with
          | cons _ _ => cases hg
          | nil => exact ih os _ _ a w hp h1 hc hat hx.2
        | cons i g ihg =>
          intro g' done L a hg hc hat hx
          cases g' with
          | nil => cases hg
          | cons o g' =>
          have hsoft : ∀ (g : List Nat) (g' : List Oper) (done : List Nat), g.map (fun i => ops.toList[i]?) = g'.map some → chainB P ops k done (flatG ((false, g) :: gs)) = true → ∀ x ∈ g', softB P x = true := by
            intro g
            induction g with
            | nil =>
              intro g' done hg _ x hx
              cases g' with
              | nil => cases hx
              | cons _ _ => cases hg
            | cons i g ihs =>
              intro g' done hg hc x hx
              cases g' with
              | nil => cases hg
              | cons o g' =>
              simp only [List.map_cons, List.cons.injEq] at hg
              have ho : ops[i]? = some o := by simpa using hg.1
              have hf : flatG ((false, i :: g) :: gs) = (false, i) :: flatG ((false, g) :: gs) := rfl
              rw [hf] at hc
              simp only [chainB, ho, Bool.and_eq_true] at hc
              rcases List.mem_cons.1 hx with rfl | hx
              · exact hc.1.1.1
              · exact ihs g' _ hg.2 hc.2 x hx
          have hso := hsoft _ _ _ hg hc
          simp only [List.map_cons, List.cons.injEq] at hg
          have ho : ops[i]? = some o := by simpa using hg.1
          have hf : flatG ((false, i :: g) :: gs) = (false, i) :: flatG ((false, g) :: gs) := rfl
          rw [hf] at hc hat ⊢
          have hcnt := hat.count
          rw [List.length_cons] at hcnt ⊢
          simp only [chainB, ho, Bool.and_eq_true] at hc
          obtain ⟨⟨⟨_, hfree⟩, hr⟩, hc⟩ := hc
          obtain ⟨v, hy, hrest⟩ := soft_step hso (fun _ _ h => h.1) hx
          refine AnyS.first (hat.yet _ (List.mem_cons_self ..)).2.1 ho (Region.noSelect_spec hsel) _ L a w hcnt ?_ (hat.ready hB ho hr) (YieldsIf.of hy fun w' hw => hw.mono hwB) (Below.refl _ _) (ihg g' _ _ _ hg.2 hc hat.next hrest)
          intro j oj hjn hoj hji hun hno
          have hjk : k ≤ j := by
            rcases Nat.lt_or_ge j k with h | h
            · rw [hat.low j h] at hun; cases hun
            · exact h
          rcases hat.all j hjk hjn with hd | ⟨x, hx, rfl⟩
          · rw [hat.did j hd] at hun; cases hun
          rcases List.mem_cons.1 hx with rfl | hx
          · exact absurd rfl hji
          have := List.all_eq_true.1 hfree x hx
          simp only [Bool.or_eq_true, hoj] at this
          rcases this with hp | hp
          · exfalso
            simp only [preds, hoj, List.contains_iff_mem, List.mem_map, List.mem_filter] at hp
            obtain ⟨e, ⟨he, hb⟩, hon⟩ := hp
            exact hno e (by simpa using he) hb hon
          · exact hp
      exact key g g' done L a hg hc hat hx

/-- ████ A REGION THAT DRAWS ITS ORDER, FROM k UP TO n, WALKED IN ONE ORDER. -/
theorem rest_chainB (B : Nat) (k n : Nat) (gs : List (Bool × List Nat)) (os : List (Bool × List Oper)) {l : List Oper} (hp : pick l gs = some' os)
    (hB : backB l.toArray = true) (hsel : Region.noSelect l.toArray = true) (h1 : onesB gs = true) (hc : chainB P l.toArray k [] (flatG gs) = true)
    (hs : (decide (k ≤ n) && decide (n ≤ l.length) && ((flatG gs).all fun x => decide (k ≤ x.2) && decide (x.2 < n)) && ((List.range n).all fun i => decide (i < k) || (flatG gs).any fun x => x.2 == i) && decide ((flatG gs).length = n - k) && nodupB ((flatG gs).map (·.2))) = true)
    (hcut : n = l.toArray.size ∨ cutB l.toArray k n = true) {a : Act} {w : World}
    (h : ChainB P l.toArray (Rest P l.toArray Q n) B os a w) : Rest P l.toArray Q k a w := by
  simp only [Bool.and_eq_true, decide_eq_true_eq, List.all_eq_true, List.mem_range, Bool.or_eq_true, List.any_eq_true, beq_iff_eq] at hs
  obtain ⟨⟨⟨⟨⟨hkn, hnl⟩, hin⟩, hall⟩, hlen⟩, hnd⟩ := hs
  replace hnd := nodupB_spec _ hnd
  refine rest_anyS (S := fun w' => Below B w w') hB (by simpa using hnl) hkn hcut fun L g hl ht => ?_
  have := chain_anyB hB hsel gs os [] L a w (by simpa using hp) h1 hc ⟨g.size, hl, fun i hi hs => ?_, fun i hi => by simp at hi, fun x hx => ?_, fun i hki hi => ?_, hnd, by simpa using hnl⟩ h
  · rw [hlen] at this
    exact this
  · have := ht i (by omega)
    have hlt : i < L.size := by rw [g.size]; exact hs
    simp [hlt] at this ⊢
    exact this
  · have hx' := hin x hx
    have := ht x.2 hx'.1
    have hlt : x.2 < L.size := by rw [g.size]; simp; omega
    refine ⟨?_, hx'.2, hx'.1⟩
    simp [hlt] at this ⊢
    exact this
  · rcases hall i hi with h | ⟨x, hx, e⟩
    · omega
    · exact .inr ⟨x, hx, e⟩
end
end Go.Proofs.Ytmlceamcpelklaa.Reg
namespace Go.Proofs.Ytmlceamcpelklaa.Reg
open Go Go.RowKit Go.Instr
set_option linter.unusedVariables false
section
variable {P : Program} {ops : Array Oper} {Q : Exit → Act → World → Prop}

def putOk (o : Oper) (a : Act) : Bool := match o.dst with
  | some d => decide (d < a.tmps.size)
  | none => false
def ChainM (P : Program) (ops : Array Oper) (K : Act → World → Prop) (S : World → Prop) : List (Bool × Oper) → Act → World → Prop
  | [], a, w => K a w
  | (false, o) :: r, a, w => ∃ a1, putOk o a = true ∧ (∀ u, S u → ∀ E : Exit → Act → World → Prop, (∀ a', a' = a1 → E .normal a' u) → wpList P ops E [o] a u) ∧ ChainM P ops K S r a1 w
  | (true, o) :: r, a, w => ∀ E : Exit → Act → World → Prop, (∀ a' w', S w' ∧ ChainM P ops K S r a' w' → E .normal a' w') → wpList P ops E [o] a w
theorem chainM_nil {K : Act → World → Prop} {S : World → Prop} {a : Act} {w : World} (h : K a w) : ChainM P ops K S [] a w := h
theorem chainM_soft {K : Act → World → Prop} {S : World → Prop} {a a1 : Act} {w : World} {o : Oper} {r : List (Bool × Oper)} (hp : putOk o a = true)
    (h : ∀ u, S u → ∀ E : Exit → Act → World → Prop, (∀ a', a' = a1 → E .normal a' u) → wpList P ops E [o] a u) (hr : ChainM P ops K S r a1 w) : ChainM P ops K S ((false, o) :: r) a w := ⟨a1, hp, h, hr⟩
theorem chainM_one {K : Act → World → Prop} {S : World → Prop} {a : Act} {w : World} {o : Oper} {r : List (Bool × Oper)} (h : ∀ E : Exit → Act → World → Prop, (∀ a' w', S w' ∧ ChainM P ops K S r a' w' → E .normal a' w') → wpList P ops E [o] a w) : ChainM P ops K S ((true, o) :: r) a w := h

/-- a soft operation, walked in every world that meets S to the same frame, yields the same value there -/
theorem yields_all {S : World → Prop} {o : Oper} {a a1 : Act} {w : World} (hs : softB P o = true) (hp : putOk o a = true) (hw : S w)
    (h : ∀ u, S u → ∀ E : Exit → Act → World → Prop, (∀ a', a' = a1 → E .normal a' u) → wpList P ops E [o] a u) : ∃ v, YieldsIf P ops S o v a ∧ a1 = a.put o.dst v := by
  unfold putOk at hp
  split at hp
  case h_2 => cases hp
  rename_i d hd
  have hlt : d < a.tmps.size := by simpa using hp
  have each : ∀ u, S u → ∃ v, YieldsIf P ops (fun w' => Below u.heap.size u w') o v a ∧ a1 = a.put o.dst v := fun u hu => by
    have h1 := h u hu (only fun a' w' => w' = u ∧ a' = a1) fun a' e => ⟨rfl, e⟩
    obtain ⟨v, hy, h2⟩ := soft_step (by simpa using hs) (fun _ _ h => h.1) h1
    exact ⟨v, hy, h2.2.symm⟩
  have same : ∀ v, a1 = a.put o.dst v → v = a1.tmps.getD d undef := fun v e => by
    rw [e, hd]
    simp [Act.put, hlt]
  obtain ⟨v, hy, e⟩ := each w hw
  refine ⟨v, ?_, e⟩
  rcases hy with ⟨hwa, -⟩ | hno
  · refine .inl ⟨hwa, fun u hu => ?_⟩
    obtain ⟨v', hy', e'⟩ := each u hu
    have ev : v' = v := (same v' e').trans (same v e).symm
    subst ev
    rcases hy' with ⟨-, h3⟩ | ⟨h3, -⟩
    · exact h3 u (Below.refl _ _)
    · rw [hwa] at h3; cases h3
  · exact .inr hno

theorem chain_anyM {S : World → Prop} {k n : Nat} {K : Act → World → Prop} (hB : backB ops = true) (hsel : Region.noSelect ops = true) : ∀ (gs : List (Bool × Nat)) (os : List (Bool × Oper)) (done : List Nat) (L : Array Bool) (a : Act) (w : World),
    gs.map (fun x => (x.1, ops.toList[x.2]?)) = os.map (fun x => (x.1, some x.2)) → chainB P ops k done gs = true → At ops k n done gs L → S w → ChainM P ops K S os a w →
    AnyS P ops n (fun _ => K) S gs.length L a w := by
  intro gs
  induction gs with
  | nil =>
    intro os done L a w hp _ _ _ h
    cases os with
    | nil => exact h
    | cons x os => cases hp
  | cons x gs ih =>
    intro os done L a w hp hc hat hS h
    cases os with
    | nil => cases hp
    | cons y os =>
    obtain ⟨b, i⟩ := x
    obtain ⟨b', o⟩ := y
    simp only [List.map_cons, List.cons.injEq, Prod.mk.injEq] at hp
    obtain ⟨⟨rfl, hg⟩, hp⟩ := hp
    have ho : ops[i]? = some o := by simpa using hg
    cases b with
    | true =>
      simp only [chainB, Bool.and_eq_true] at hc
      obtain ⟨⟨hr, ha⟩, hc⟩ := hc
      have hx := h (only fun a' w' => S w' ∧ ChainM P ops K S os a' w') fun a' w' hch => hch
      rw [List.length_cons]
      intro j hj hjr
      obtain rfl := hat.only ha hj hjr
      exact wpOp_mono (fun a' w' h' => ⟨h'.1, ih os _ _ a' w' hp hc hat.next h'.1 h'.2⟩) (wpList_one ho hx)
    | false =>
      obtain ⟨a1, hpo, hx, hrest⟩ := h
      have hcnt := hat.count
      rw [List.length_cons] at hcnt ⊢
      simp only [chainB, ho, Bool.and_eq_true] at hc
      obtain ⟨⟨⟨hso, hfree⟩, hr⟩, hc⟩ := hc
      obtain ⟨v, hy, rfl⟩ := yields_all hso hpo hS hx
      refine AnyS.first (hat.yet _ (List.mem_cons_self ..)).2.1 ho (Region.noSelect_spec hsel) _ L a w hcnt ?_ (hat.ready hB ho hr) hy hS (ih os _ _ _ w hp hc hat.next hS hrest)
      intro j oj hjn hoj hji hun hno
      have hjk : k ≤ j := by
        rcases Nat.lt_or_ge j k with h | h
        · rw [hat.low j h] at hun; cases hun
        · exact h
      rcases hat.all j hjk hjn with hd | ⟨x, hx, rfl⟩
      · rw [hat.did j hd] at hun; cases hun
      rcases List.mem_cons.1 hx with rfl | hx
      · exact absurd rfl hji
      have := List.all_eq_true.1 hfree x hx
      simp only [Bool.or_eq_true, hoj] at this
      rcases this with hp | hp
      · exfalso
        simp only [preds, hoj, List.contains_iff_mem, List.mem_map, List.mem_filter] at hp
        obtain ⟨e, ⟨he, hb⟩, hon⟩ := hp
        exact hno e (by simpa using he) hb hon
      · exact hp
/-- A REGION THAT DRAWS ITS ORDER, FROM k UP TO n, WALKED IN ONE ORDER, S HOLDING THROUGHOUT -/
theorem rest_chainM (S : World → Prop) (k n : Nat) (gs : List (Bool × Nat)) (os : List (Bool × Oper)) {l : List Oper} (hp : gs.map (fun x => (x.1, l[x.2]?)) = os.map (fun x => (x.1, some x.2)))
    (hB : backB l.toArray = true) (hsel : Region.noSelect l.toArray = true) (hc : chainB P l.toArray k [] gs = true)
    (hs : (decide (k ≤ n) && decide (n ≤ l.length) && (gs.all fun x => decide (k ≤ x.2) && decide (x.2 < n)) && ((List.range n).all fun i => decide (i < k) || gs.any fun x => x.2 == i) && decide (gs.length = n - k) && nodupB (gs.map (·.2))) = true)
    (hcut : n = l.toArray.size ∨ cutB l.toArray k n = true) {a : Act} {w : World} (hS : S w)
    (h : ChainM P l.toArray (Rest P l.toArray Q n) S os a w) : Rest P l.toArray Q k a w := by
  simp only [Bool.and_eq_true, decide_eq_true_eq, List.all_eq_true, List.mem_range, Bool.or_eq_true, List.any_eq_true, beq_iff_eq] at hs
  obtain ⟨⟨⟨⟨⟨hkn, hnl⟩, hin⟩, hall⟩, hlen⟩, hnd⟩ := hs
  replace hnd := nodupB_spec _ hnd
  refine rest_anyS (S := S) hB (by simpa using hnl) hkn hcut fun L g hl ht => ?_
  have := chain_anyM (n := n) hB hsel gs os [] L a w (by simpa using hp) hc ⟨g.size, hl, fun i hi hs => ?_, fun i hi => by simp at hi, fun x hx => ?_, fun i hki hi => ?_, hnd, by simpa using hnl⟩ hS h
  · rw [hlen] at this
    exact this
  · have := ht i (by omega)
    have hlt : i < L.size := by rw [g.size]; exact hs
    simp [hlt] at this ⊢
    exact this
  · have hx' := hin x hx
    have := ht x.2 hx'.1
    have hlt : x.2 < L.size := by rw [g.size]; simp; omega
    refine ⟨?_, hx'.2, hx'.1⟩
    simp [hlt] at this ⊢
    exact this
  · rcases hall i hi with h | ⟨x, hx, e⟩
    · omega
    · exact .inr ⟨x, hx, e⟩
end
end Go.Proofs.Ytmlceamcpelklaa.Reg
