
/-
  Regions that draw their order, some of whose operations write into variables that were there: of each such operation one says which block it writes. Plain laws over any program.
-/
import Derived.Test.YtcmgfelbbmeanaaVisit
namespace Go.Proofs.Ytcmgfelbbmeanaa.Tms
open Go Go.RowKit Go.Proofs.Ytcmgfelbbmeanaa.Reg
set_option linter.unusedVariables false

section
variable {P : Program} {ops : Array Oper} {Q : Exit → Act → World → Prop}

/-- what may have turned when operation i comes up: what is written by those that do not wait for it -/
def nOf (ops : Array Oper) (ms : List (Nat × Nat)) (i : Nat) : List Nat := (ms.filter fun p => p.1 != i && !(preds ops p.1).contains i).map (·.2)
theorem mem_nOf {ms : List (Nat × Nat)} {i j b : Nat} (hm : (j, b) ∈ ms) (hj : j ≠ i) (hc : i ∉ preds ops j) : b ∈ nOf ops ms i :=
  List.mem_map.2 ⟨(j, b), List.mem_filter.2 ⟨hm, by simp [hj, hc]⟩, rfl⟩
theorem listed_preds {L : Array Bool} (g : Reg.Good ops L) {j : Nat} (hj : L.getD j false = true) : ∀ i ∈ preds ops j, L.getD i false = true := by
  intro i hi
  cases ho : ops[j]? with
  | none => simp [preds, ho] at hi
  | some oj => exact preds_listed ho (g.closed j oj ho hj) i hi
/-- the frame with what operations k, k + 1, .. (so many) leave, but for those that wait for operation i and are listed so -/
def putX (ops : Array Oper) (ex : Nat → Nat → Bool) (i : Nat) (v : Nat → Value) (k : Nat) : Nat → Act → Act
  | 0, a => a
  | d + 1, a => cond (ex i (k + d)) (putX ops ex i v k d a) ((putX ops ex i v k d a).put (dstOf ops (k + d)) (v (k + d)))
theorem putX_spec {ex : Nat → Nat → Bool} {i0 : Nat} {v : Nat → Value} {a : Act} {k n : Nat} (hinj : ∀ (i j d : Nat), k ≤ i → i < n → k ≤ j → j < n → dstOf ops i = some d → dstOf ops j = some d → i = j) : ∀ q, k + q ≤ n →
    (putX ops ex i0 v k q a).defers = a.defers ∧ (putX ops ex i0 v k q a).tmps.size = a.tmps.size ∧
    (∀ (i d : Nat), k ≤ i → i < k + q → ex i0 i = false → dstOf ops i = some d → d < a.tmps.size → (putX ops ex i0 v k q a).tmps[d]? = some (v i)) ∧
    (∀ s, (∀ i, k ≤ i → i < k + q → ex i0 i = false → dstOf ops i ≠ some s) → (putX ops ex i0 v k q a).tmps[s]? = a.tmps[s]?) := by
  intro q
  induction q with
  | zero => intro _; exact ⟨rfl, rfl, fun i d hk hi => by omega, fun s _ => rfl⟩
  | succ q ih =>
    intro hq
    obtain ⟨h1, h2, h3, h4⟩ := ih (by omega)
    unfold putX
    cases he : ex i0 (k + q)
    · simp only [cond_false]
      cases hd : dstOf ops (k + q) with
      | none =>
        refine ⟨h1, h2, fun i d hki hi hex hdi hlt => ?_, fun s hs => h4 s fun i hki hi hex => hs i hki (by omega) hex⟩
        by_cases hik : i = k + q
        · subst hik; rw [hd] at hdi; cases hdi
        · exact h3 i d hki (by omega) hex hdi hlt
      | some dk =>
        refine ⟨h1, by simp [Act.put, h2], fun i d hki hi hex hdi hlt => ?_, fun s hs => ?_⟩
        · by_cases hik : i = k + q
          · subst hik
            obtain rfl : dk = d := by rw [hd] at hdi; exact Option.some.inj hdi
            simp [Act.put, h2, hlt]
          · have hne : dk ≠ d := fun e => hik (hinj i (k + q) d hki (by omega) (by omega) (by omega) hdi (e ▸ hd))
            simp only [Act.put, Array.getElem?_setIfInBounds_ne hne]
            exact h3 i d hki (by omega) hex hdi hlt
        · have hne : dk ≠ s := fun e => hs (k + q) (by omega) (by omega) he (e ▸ hd)
          simp only [Act.put, Array.getElem?_setIfInBounds_ne hne]
          exact h4 s fun i hki hi hex => hs i hki (by omega) hex
    · simp only [cond_true]
      refine ⟨h1, h2, fun i d hki hi hex hdi hlt => ?_, fun s hs => h4 s fun i hki hi hex => hs i hki (by omega) hex⟩
      by_cases hik : i = k + q
      · subst hik; rw [he] at hex; cases hex
      · exact h3 i d hki (by omega) hex hdi hlt
/-- as headB; a slot that operation i looks at may also be written by one that waits for i, if that is listed -/
def headX (ops : Array Oper) (ex : Nat → Nat → Bool) (k n m : Nat) : Bool :=
  ((List.range n).all fun i => decide (i < k) || match dstOf ops i with
    | some d => decide (d < m) && (List.range n).all fun j => decide (j < k) || decide (i = j) || dstOf ops j != some d
    | none => true) &&
  ((List.range n).all fun i => decide (i < k) || match ops[i]? with
    | some o => (o.looksAt ops).all fun t => (List.range n).all fun j => decide (j < k) || dstOf ops j != some t || (preds ops i).contains j || ex i j
    | none => true) && Region.noSelect ops && decide (n ≤ ops.size) && decide (k ≤ n) &&
  ((List.range n).all fun i => (List.range n).all fun j => !ex i j || (preds ops j).contains i)
structure HeadX (ops : Array Oper) (ex : Nat → Nat → Bool) (k n m : Nat) : Prop where
  lt : ∀ (i d : Nat), k ≤ i → i < n → dstOf ops i = some d → d < m
  inj : ∀ (i j d : Nat), k ≤ i → i < n → k ≤ j → j < n → dstOf ops i = some d → dstOf ops j = some d → i = j
  sees : ∀ (i : Nat) (o : Oper) (t j : Nat), k ≤ i → i < n → ops[i]? = some o → t ∈ o.looksAt ops → k ≤ j → j < n → dstOf ops j = some t → j ∈ preds ops i ∨ ex i j = true
  nosel : ∀ (j : Nat) (o : Oper) cs b, ops[j]? = some o → o.op ≠ .select cs b
  le : n ≤ ops.size
  kn : k ≤ n
  waits : ∀ i j, i < n → j < n → ex i j = true → i ∈ preds ops j
theorem headX_spec {ex : Nat → Nat → Bool} {k n m : Nat} (h : headX ops ex k n m = true) : HeadX ops ex k n m := by
  simp only [headX, Bool.and_eq_true, List.all_eq_true, List.mem_range, decide_eq_true_eq, Bool.or_eq_true] at h
  obtain ⟨⟨⟨⟨⟨h1, h2⟩, h3⟩, h4⟩, h5⟩, h6⟩ := h
  refine ⟨fun i d hki hi hd => ?_, fun i j d hki hi hkj hj hd hd' => ?_, fun i o t j hki hi ho ht hkj hj hd => ?_, Region.noSelect_spec h3, h4, h5, fun i j hi hj he => ?_⟩
  · have := (h1 i hi).resolve_left (by omega)
    simp only [hd, Bool.and_eq_true, decide_eq_true_eq] at this
    exact this.1
  · have := (h1 i hi).resolve_left (by omega)
    simp only [hd, Bool.and_eq_true, List.all_eq_true, List.mem_range] at this
    have := this.2 j hj
    have hnk : ¬ j < k := by omega
    simpa [hd', hnk] using this
  · have := (h2 i hi).resolve_left (by omega)
    simp only [ho, List.all_eq_true, List.mem_range] at this
    have := this t ht j hj
    have hnk : ¬ j < k := by omega
    simpa [hd, hnk] using this
  · have := h6 i hi j hj
    simpa [he] using this
/-- what an operation leaves: but for its own blocks nothing that was there has turned; its value -/
def LeftM (dst : Option Tmp) (ds : List Deferred) (w : World) (Mi : Nat → Prop) (S : Value → World → Prop) (K : Value → Option Nat) (a' : Act) (w' : World) : Prop :=
  a'.defers = ds ∧ Keeps w w' Mi ∧ S (match dst with | some d => a'.tmps.getD d undef | none => undef) w' ∧
    (∀ b, K (match dst with | some d => a'.tmps.getD d undef | none => undef) = some b → w.heap.size ≤ b ∧ b < w'.heap.size)

structure HM (ops : Array Oper) (k n : Nat) (ms : List (Nat × Nat)) (S : Nat → Value → World → Prop) (F : Nat → Value → Option Nat) (a0 : Act) (w0 : World) (L : Array Bool) (a : Act) (w : World) (v : Nat → Value) : Prop where
  defers : a.defers = a0.defers
  size : a.tmps.size = a0.tmps.size
  grow : Keeps w0 w (fun b => ∃ j, L.getD j false = true ∧ (j, b) ∈ ms)
  slots : ∀ (i d : Nat), k ≤ i → i < n → L.getD i false = true → dstOf ops i = some d → a.tmps[d]? = some (v i)
  others : ∀ s, (∀ i, k ≤ i → i < n → L.getD i false = true → dstOf ops i ≠ some s) → a.tmps[s]? = a0.tmps[s]?
  holds : ∀ i, k ≤ i → i < n → L.getD i false = true → S i (v i) w
  fresh : ∀ i, k ≤ i → i < n → L.getD i false = true → ∀ b, F i (v i) = some b → b < w.heap.size
  apart : ∀ i j, k ≤ i → i < n → k ≤ j → j < n → L.getD i false = true → L.getD j false = true → i ≠ j → ∀ b, F i (v i) = some b → F j (v j) ≠ some b

/-- IN WHATEVER ORDER: each operation from k up to n meets what those that it waits for have left. 'v': what they leave in their slots. -/
theorem rest_parM (k n m : Nat) (ms : List (Nat × Nat)) (ex : Nat → Nat → Bool) (S : Nat → Value → World → Prop) (F : Nat → Value → Option Nat) {a0 : Act} {w0 : World} (hB : backB ops = true)
    (hH : headX ops ex k n m = true) (hsz : a0.tmps.size = m) (hcut : n = ops.size ∨ cutB ops k n = true)
    (hS : ∀ i v w w', k ≤ i → i < n → S i v w → w0.heap.size ≤ w.heap.size → Keeps w w' (fun b => ∃ j, j ≠ i ∧ (j, b) ∈ ms) → S i v w')
    (hop : ∀ i o, k ≤ i → i < n → ops[i]? = some o → ∀ (v : Nat → Value) w, Keeps w0 w (fun b => b ∈ nOf ops ms i) → (∀ j, (preds ops i).contains j = true → k ≤ j → j < n → S j (v j) w) →
      wpList P ops (only (LeftM o.dst a0.defers w (fun b => (i, b) ∈ ms) (S i) (F i))) [o] (putX ops ex i v k (n - k) a0) w)
    (hend : ∀ (v : Nat → Value) w, Keeps w0 w (fun b => ∃ j, (j, b) ∈ ms) → (∀ i, k ≤ i → i < n → S i (v i) w) → (∀ i j, k ≤ i → i < n → k ≤ j → j < n → i ≠ j → ∀ b, F i (v i) = some b → F j (v j) ≠ some b) →
      Reg.Rest P ops Q n (putAll ops v k (n - k) a0) w) : Reg.Rest P ops Q k a0 w0 := by
  have H := headX_spec hH
  have hkn := H.kn
  intro L0 g0 h10 h20
  refine wpAny_upto (k := k) (n := n) (fun L a w => ∃ v, HM ops k n ms S F a0 w0 L a w v) hB H.le hcut ?_ ?_ _ L0 a0 w0 g0 (count_rest g0 h10 h20) (fun i hi => h10 i hi (by have := H.le; omega)) (fun t ht => h20 t (by omega)) ?_
  · intro L a w i o g hin ho hu hall htail hlow ⟨v, h⟩
    have hki : k ≤ i := by
      rcases Nat.lt_or_ge i k with hlt | hge
      · have := hlow i hlt
        rw [getD_both hu] at this
        cases this
      · exact hge
    have hilt : i < ops.size := (Array.getElem?_eq_some_iff.1 ho).1
    have hp : ∀ j ∈ preds ops i, L.getD j false = true := preds_listed ho hall
    let v' : Nat → Value := fun j => if L.getD j false then v j else undef
    have hv' : ∀ j, L.getD j false = true → v' j = v j := fun j hj => by simp only [v', hj, if_true]
    obtain ⟨q1, q2, q3, q4⟩ := putX_spec (ops := ops) (ex := ex) (i0 := i) (v := v') (a := a0) H.inj (n - k) (by omega)
    rw [show k + (n - k) = n from by omega] at q3 q4
    have hLi0 : L.getD i false = false := by have hl : i < L.size := by (rw [g.size]; exact hilt)
                                             simp [hl] at hu ⊢; exact hu
    have hun : ∀ j, j < n → ex i j = true → L.getD j false = false := fun j hj he => by
      cases hc : L.getD j false with
      | false => rfl
      | true => have := listed_preds g hc i (H.waits i j hin hj he); rw [hLi0] at this; cases this
    have hlook : ∀ t ∈ o.looksAt ops, (putX ops ex i v' k (n - k) a0).tmps[t]? = a.tmps[t]? := by
      intro (t : Nat) ht
      by_cases hs : ∃ j, k ≤ j ∧ j < n ∧ dstOf ops j = some t
      · obtain ⟨j, hkj, hj, hd⟩ := hs
        cases he : ex i j with
        | false =>
          have hjl := hp j ((H.sees i o t j hki hin ho ht hkj hj hd).resolve_right (by rw [he]; decide))
          rw [q3 j t hkj hj he hd (by have := H.lt j t hkj hj hd; rw [hsz]; exact this), h.slots j t hkj hj hjl hd, hv' j hjl]
        | true =>
          have hjn := hun j hj he
          rw [q4 t fun j' hkj' hj' he' hd' => by have := H.inj j' j t hkj' hj' hkj hj hd' hd; rw [this, he] at he'; cases he']
          exact (h.others t fun j' hkj' hj' hl' hd' => by have := H.inj j' j t hkj' hj' hkj hj hd' hd; rw [this, hjn] at hl'; cases hl').symm
      · rw [q4 t fun j hkj hj _ hd => hs ⟨j, hkj, hj, hd⟩]
        exact (h.others t fun j hkj hj _ hd => hs ⟨j, hkj, hj, hd⟩).symm
    have hLi : L.getD i false = false := by have hl : i < L.size := by (rw [g.size]; exact hilt)
                                            simp [hl] at hu ⊢; exact hu
    have hgr : Keeps w0 w (fun b => b ∈ nOf ops ms i) := ⟨h.grow.os, h.grow.tape, h.grow.output, h.grow.size, fun b hb hn => h.grow.block b hb fun ⟨j, hj, hm⟩ => hn (mem_nOf hm (fun e => by rw [e, hLi] at hj; cases hj) fun hc => by have := listed_preds g hj i hc; rw [hLi] at this; cases this)⟩
    have hlk := hop i o hki hin ho v' w hgr (fun j hj hkj hjn => by have hj' := hp j (by simpa using hj); rw [hv' j hj']; exact h.holds j hkj hjn hj')
    refine wpOp_of_only ho (K := LeftM o.dst a0.defers w (fun b => (i, b) ∈ ms) (S i) (F i)) (fun a' w' hk => hk.1.trans q1.symm) ?_ ?_ ?_ hlk
    · refine execOp_congr o (fun cs b => H.nosel i o cs b ho) fun x hx => ?_
      cases x with
      | tmp t => exact getD_eq_of (hlook t (List.mem_append_left _ (List.mem_filterMap.2 ⟨.tmp t, by simpa using hx, rfl⟩)))
      | _ => rfl
    · unfold Region.wanted
      cases hg : o.guard with
      | none => rfl
      | some gw =>
        obtain ⟨gj, want⟩ := gw
        have : yielded ops (putX ops ex i v' k (n - k) a0).tmps gj = yielded ops a.tmps gj := by
          unfold yielded
          cases ht : (ops[gj]?).bind (·.dst) with
          | none => rfl
          | some t => simp only [Option.bind_some, hlook t (by simp [Oper.looksAt, hg, ht])]
        simp only [this]
    · intro u w' hk
      obtain ⟨hkd, hkg, hks, hkf⟩ := hk
      have hval : ∀ d : Nat, o.dst = some d → ((putX ops ex i v' k (n - k) a0).put o.dst u).tmps.getD d undef = u := fun d hd => by
        have hd' : dstOf ops i = some d := by simp [dstOf, ho, hd]
        have hlt := H.lt i d hki hin hd'
        have : d < (putX ops ex i v' k (n - k) a0).tmps.size := by rw [q2, hsz]; exact hlt
        simp [hd, Act.put, this]
      let u' : Value := match o.dst with | some _ => u | none => undef
      have hu' : (match o.dst with | some d => ((putX ops ex i v' k (n - k) a0).put o.dst u).tmps.getD d undef | none => undef) = u' := by
        cases hd : o.dst with
        | none => simp only [u', hd]
        | some d => have := hval d hd; rw [hd] at this; simp only [u', hd]; exact this
      rw [hu'] at hks hkf
      have hLn : ∀ j, j ≠ i → (L.setIfInBounds i true).getD j false = L.getD j false := fun j hj => getD_set_ne false (Ne.symm hj)
      refine ⟨fun j => if j = i then u' else v j, ?_, ?_, ?_, ?_, ?_, ?_, ?_, ?_⟩
      · cases hd : o.dst <;> simp [Act.put, h.defers]
      · cases hd : o.dst <;> simp [Act.put, h.size]
      · refine ⟨hkg.os.trans h.grow.os, hkg.tape.trans h.grow.tape, hkg.output.trans h.grow.output, Nat.le_trans h.grow.size hkg.size, fun b hb hn => (hkg.block b (Nat.lt_of_lt_of_le hb h.grow.size) fun hm => hn ⟨i, by simp [g.size, hilt], hm⟩).trans (h.grow.block b hb fun ⟨j, hj, hm⟩ => hn ⟨j, getD_set_true hj, hm⟩)⟩
      · intro j d hkj hj hjl hd
        by_cases hji : j = i
        · subst hji
          have hd' : o.dst = some d := by simpa [dstOf, ho] using hd
          have hlt := H.lt j d hkj hj hd
          have : d < a.tmps.size := by rw [h.size, hsz]; exact hlt
          simp [hd', Act.put, this, u']
        · rw [hLn j hji] at hjl
          have h0 := h.slots j d hkj hj hjl hd
          cases hdo : o.dst with
          | none => simp [Act.put, hji, h0]
          | some d' =>
            have hne : d' ≠ d := fun e => hji (H.inj j i d hkj hj hki hin hd (by simp [dstOf, ho, hdo, e]))
            simp [Act.put, hji, Array.getElem?_setIfInBounds_ne hne, h0]
      · intro s hs
        have h0 := h.others s fun j hkj hj hjl hd => by
          by_cases hji : j = i
          · subst hji
            rw [getD_both hu] at hjl
            cases hjl
          · exact hs j hkj hj (by rw [hLn j hji]; exact hjl) hd
        cases hdo : o.dst with
        | none => simpa [Act.put] using h0
        | some d' =>
          have hne : d' ≠ s := fun e => hs i hki hin (by simp [g.size, hilt]) (by simp [dstOf, ho, hdo, e])
          simpa [Act.put, Array.getElem?_setIfInBounds_ne hne] using h0
      · intro j hkj hj hjl
        by_cases hji : j = i
        · subst hji; simpa using hks
        · rw [hLn j hji] at hjl
          simpa [hji] using hS j _ _ _ hkj hj (h.holds j hkj hj hjl) h.grow.size ⟨hkg.os, hkg.tape, hkg.output, hkg.size, fun b hb hn => hkg.block b hb fun hm => hn ⟨i, Ne.symm hji, hm⟩⟩
      · intro j hkj hj hjl b hb
        by_cases hji : j = i
        · subst hji
          exact (hkf b (by simpa using hb)).2
        · rw [hLn j hji] at hjl
          have := h.fresh j hkj hj hjl b (by simpa [hji] using hb)
          have := hkg.size
          omega
      · intro j q hkj hj hkq hq hjl hql hne b hb
        by_cases hji : j = i
        · subst hji
          have hqi : q ≠ j := Ne.symm hne
          rw [hLn q hqi] at hql
          have h1 := (hkf b (by simpa using hb)).1
          intro e
          have h2 := h.fresh q hkq hq hql b (by simpa [hqi] using e)
          omega
        · rw [hLn j hji] at hjl
          by_cases hqi : q = i
          · subst hqi
            have h2 := h.fresh j hkj hj hjl b (by simpa [hji] using hb)
            intro e
            have h1 := (hkf b (by simpa using e)).1
            omega
          · rw [hLn q hqi] at hql
            have := h.apart j q hkj hj hkq hq hjl hql hne b (by simpa [hji] using hb)
            simpa [hqi] using this
  · intro L a w hall ⟨v, h⟩
    obtain ⟨q1, q2, q3, q4⟩ := putAll_spec (ops := ops) (v := v) (a := a0) H.inj (n - k) (by omega)
    rw [show k + (n - k) = n from by omega] at q3 q4
    have : a = putAll ops v k (n - k) a0 := by
      obtain ⟨t, d⟩ := a
      generalize hp : putAll ops v k (n - k) a0 = b at *
      obtain ⟨t', d'⟩ := b
      have e1 : d = d' := h.defers.trans q1.symm
      have e2 : t = t' := by
        apply Array.ext_getElem?
        intro (s : Nat)
        by_cases hs : ∃ i, k ≤ i ∧ i < n ∧ dstOf ops i = some s
        · obtain ⟨i, hki, hi, hd⟩ := hs
          have hl := H.lt i s hki hi hd
          exact (h.slots i s hki hi (hall i hi) hd).trans (q3 i s hki hi hd (hsz ▸ hl)).symm
        · exact (h.others s fun i hki hi _ hd => hs ⟨i, hki, hi, hd⟩).trans (q4 s fun i hki hi hd => hs ⟨i, hki, hi, hd⟩).symm
      rw [e1, e2]
    rw [this]
    exact hend v w ⟨h.grow.os, h.grow.tape, h.grow.output, h.grow.size, fun b hb hn => h.grow.block b hb fun ⟨j, _, hm⟩ => hn ⟨j, hm⟩⟩ (fun i hki hi => h.holds i hki hi (hall i hi)) (fun i j hki hi hkj hj => h.apart i j hki hi hkj hj (hall i hi) (hall j hj))
  · have hno : ∀ i, k ≤ i → L0.getD i false = true → False := fun i hki hl => by rw [h20 i hki] at hl; cases hl
    exact ⟨fun _ => undef, rfl, rfl, Keeps.refl _ _, fun i d hki _ hl => (hno i hki hl).elim, fun _ _ => rfl, fun i hki _ hl => (hno i hki hl).elim, fun i hki _ hl => (hno i hki hl).elim, fun i j hki _ _ _ hl => (hno i hki hl).elim⟩

/-- What is to be shown of each operation, one behind the other. -/
def HopsM (P : Program) (ops : Array Oper) (k n : Nat) (ms : List (Nat × Nat)) (ex : Nat → Nat → Bool) (S : Nat → Value → World → Prop) (F : Nat → Value → Option Nat) (a0 : Act) (w0 : World) : Nat → List Oper → Prop
  | _, [] => True
  | i, o :: rest => (∀ (v : Nat → Value) (w : World), Keeps w0 w (fun b => b ∈ nOf ops ms i) → (∀ j, (preds ops i).contains j = true → k ≤ j → j < n → S j (v j) w) →
      ∀ Q' : Exit → Act → World → Prop, (∀ a' w', LeftM o.dst a0.defers w (fun b => (i, b) ∈ ms) (S i) (F i) a' w' → Q' .normal a' w') → wpList P ops Q' [o] (putX ops ex i v k (n - k) a0) w) ∧ HopsM P ops k n ms ex S F a0 w0 (i + 1) rest
theorem hopsM_get {k n : Nat} {ms : List (Nat × Nat)} {ex : Nat → Nat → Bool} {S : Nat → Value → World → Prop} {F : Nat → Value → Option Nat} {a0 : Act} {w0 : World} : ∀ (l : List Oper) (q : Nat), HopsM P ops k n ms ex S F a0 w0 q l → ∀ i o, l[i]? = some o →
    ∀ (v : Nat → Value) w, Keeps w0 w (fun b => b ∈ nOf ops ms (q + i)) → (∀ j, (preds ops (q + i)).contains j = true → k ≤ j → j < n → S j (v j) w) →
      ∀ Q' : Exit → Act → World → Prop, (∀ a' w', LeftM o.dst a0.defers w (fun b => (q + i, b) ∈ ms) (S (q + i)) (F (q + i)) a' w' → Q' .normal a' w') → wpList P ops Q' [o] (putX ops ex (q + i) v k (n - k) a0) w
  | [], _, _, i, o, hi => by simp at hi
  | x :: l, q, h, 0, o, hi => by
    obtain rfl : x = o := by simpa using hi
    exact h.1
  | x :: l, q, h, i + 1, o, hi => by
    have := hopsM_get l (q + 1) h.2 i o (by simpa using hi)
    rw [show q + 1 + i = q + (i + 1) from by omega] at this
    exact this
theorem rest_opsM (k n m : Nat) (ms : List (Nat × Nat)) (ex : Nat → Nat → Bool) (ls : List Oper) (S : Nat → Value → World → Prop) (F : Nat → Value → Option Nat) {a0 : Act} {w0 : World} {l : List Oper} (hls : (l.drop k).take (n - k) = ls) (hB : backB l.toArray = true)
    (hH : headX l.toArray ex k n m = true) (hsz : a0.tmps.size = m) (hcut : n = l.toArray.size ∨ cutB l.toArray k n = true)
    (hS : ∀ i v w w', k ≤ i → i < n → S i v w → w0.heap.size ≤ w.heap.size → Keeps w w' (fun b => ∃ j, j ≠ i ∧ (j, b) ∈ ms) → S i v w')
    (hop : HopsM P l.toArray k n ms ex S F a0 w0 k ls)
    (hend : ∀ (v : Nat → Value) w, Keeps w0 w (fun b => ∃ j, (j, b) ∈ ms) → (∀ i, k ≤ i → i < n → S i (v i) w) → (∀ i j, k ≤ i → i < n → k ≤ j → j < n → i ≠ j → ∀ b, F i (v i) = some b → F j (v j) ≠ some b) →
      Reg.Rest P l.toArray Q n (putAll l.toArray v k (n - k) a0) w) : Reg.Rest P l.toArray Q k a0 w0 := by
  subst hls
  refine rest_parM k n m ms ex S F hB hH hsz hcut hS (fun i o hki hi ho v w hb hs => ?_) hend
  have := hopsM_get _ k hop (i - k) o (by rw [List.getElem?_take, List.getElem?_drop, if_pos (by omega), show k + (i - k) = i from by omega]; simpa using ho) v w (by rw [show k + (i - k) = i from by omega]; exact hb)
  rw [show k + (i - k) = i from by omega] at this
  exact this (fun j hj => hs j (by simpa using hj)) _ fun a' w' h => h
end
end Go.Proofs.Ytcmgfelbbmeanaa.Tms
