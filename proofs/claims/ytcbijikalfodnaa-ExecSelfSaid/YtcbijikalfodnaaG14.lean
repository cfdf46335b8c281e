/-
  Layer texts, glued and made small.
-/
import Derived.Test.YtcbijikalfodnaaG13
set_option linter.unusedVariables false
set_option linter.unusedSimpArgs false
set_option maxRecDepth 100000
set_option maxHeartbeats 16000000
namespace Go.Proofs.Ytcbijikalfodnaa.Tms
open Go Go.RowKit Go.Proofs.Ytcbijikalfodnaa.Reg
section
variable {P : Program} {ops : Array Oper} {Q : Exit → Act → World → Prop}
def nOf (ops : Array Oper) (ms : List (Nat × Nat)) (i : Nat) : List Nat := (ms.filter fun p => p.1 != i && !(preds ops p.1).contains i).map (·.2)
theorem mem_nOf {ms : List (Nat × Nat)} {i j b : Nat} (hm : (j, b) ∈ ms) (hj : j ≠ i) (hc : i ∉ preds ops j) : b ∈ nOf ops ms i :=
 List.mem_map.2 ⟨(j, b), List.mem_filter.2 ⟨hm, by simp [hj, hc]⟩, rfl⟩
theorem listed_preds {L : Array Bool} (g : Reg.Good ops L) {j : Nat} (hj : L.getD j false = true) : ∀ i ∈ preds ops j, L.getD i false = true := by
 intro i hi; cases ho : ops[j]? with
 | none => simp [preds, ho] at hi
 | some oj => exact preds_listed ho (g.closed j oj ho hj) i hi
def putX (ops : Array Oper) (ex : Nat → Nat → Bool) (i : Nat) (v : Nat → Value) (k : Nat) : Nat → Act → Act
 | 0, a => a
 | d + 1, a => cond (ex i (k + d)) (putX ops ex i v k d a) ((putX ops ex i v k d a).put (dstOf ops (k + d)) (v (k + d)))
theorem putX_spec {ex : Nat → Nat → Bool} {i0 : Nat} {v : Nat → Value} {a : Act} {k n : Nat} (hinj : ∀ (i j d : Nat), k ≤ i → i < n → k ≤ j → j < n → dstOf ops i = some d → dstOf ops j = some d → i = j) : ∀ q, k + q ≤ n →
 (putX ops ex i0 v k q a).defers = a.defers ∧ (putX ops ex i0 v k q a).tmps.size = a.tmps.size ∧
 (∀ (i d : Nat), k ≤ i → i < k + q → ex i0 i = false → dstOf ops i = some d → d < a.tmps.size → (putX ops ex i0 v k q a).tmps[d]? = some (v i)) ∧
 (∀ s, (∀ i, k ≤ i → i < k + q → ex i0 i = false → dstOf ops i ≠ some s) → (putX ops ex i0 v k q a).tmps[s]? = a.tmps[s]?) := by
 intro q
 induction q with
 | zero => intro _; exact ⟨rfl, rfl, fun i d hk hi => by omega, fun s _ => rfl⟩
 | succ q ih =>
   intro hq; obtain ⟨h1, h2, h3, h4⟩ := ih (by omega); unfold putX; cases he : ex i0 (k + q)
   ·simp only [cond_false]
    cases hd : dstOf ops (k + q) with
    | none =>
      refine ⟨h1, h2, fun i d hki hi hex hdi hlt => ?_, fun s hs => h4 s fun i hki hi hex => hs i hki (by omega) hex⟩
      by_cases hik : i = k + q
      ·subst hik; rw [hd] at hdi; cases hdi
      ·exact h3 i d hki (by omega) hex hdi hlt
    | some dk =>
      refine ⟨h1, by simp [Act.put, h2], fun i d hki hi hex hdi hlt => ?_, fun s hs => ?_⟩
      ·by_cases hik : i = k + q
       ·subst hik
        obtain rfl : dk = d := by rw [hd] at hdi; exact Option.some.inj hdi
        simp [Act.put, h2, hlt]
       ·have hne : dk ≠ d := fun e => hik (hinj i (k + q) d hki (by omega) (by omega) (by omega) hdi (e ▸ hd))
        simp only [Act.put, Array.getElem?_setIfInBounds_ne hne]; exact h3 i d hki (by omega) hex hdi hlt
      ·have hne : dk ≠ s := fun e => hs (k + q) (by omega) (by omega) he (e ▸ hd)
       simp only [Act.put, Array.getElem?_setIfInBounds_ne hne]; exact h4 s fun i hki hi hex => hs i hki (by omega) hex
   ·simp only [cond_true]
    refine ⟨h1, h2, fun i d hki hi hex hdi hlt => ?_, fun s hs => h4 s fun i hki hi hex => hs i hki (by omega) hex⟩
    by_cases hik : i = k + q
    ·subst hik; rw [he] at hex; cases hex
    ·exact h3 i d hki (by omega) hex hdi hlt
def headX (ops : Array Oper) (ex : Nat → Nat → Bool) (k n m : Nat) : Bool :=
 ((List.range n).all fun i => decide (i < k) || match dstOf ops i with
   | some d => decide (d < m) && (List.range n).all fun j => decide (j < k) || decide (i = j) || dstOf ops j != some d
   | none => true) &&
 ((List.range n).all fun i => decide (i < k) || match ops[i]? with
   | some o => (o.looksAt ops).all fun t => (List.range n).all fun j => decide (j < k) || dstOf ops j != some t || (preds ops i).contains j || ex i j
   | none => true) && Region.noSelect ops && decide (n ≤ ops.size) && decide (k ≤ n) &&
 ((List.range n).all fun i => (List.range n).all fun j => !ex i j || (preds ops j).contains i)
structure HeadX (ops : Array Oper) (ex : Nat → Nat → Bool) (k n m : Nat) : Prop where
 lt : ∀ (i d : Nat), k ≤ i → i < n → dstOf ops i = some d → d < m
 inj : ∀ (i j d : Nat), k ≤ i → i < n → k ≤ j → j < n → dstOf ops i = some d → dstOf ops j = some d → i = j
 sees : ∀ (i : Nat) (o : Oper) (t j : Nat), k ≤ i → i < n → ops[i]? = some o → t ∈ o.looksAt ops → k ≤ j → j < n → dstOf ops j = some t → j ∈ preds ops i ∨ ex i j = true
 nosel : ∀ (j : Nat) (o : Oper) cs b, ops[j]? = some o → o.op ≠ .select cs b
 le : n ≤ ops.size
 kn : k ≤ n
 waits : ∀ i j, i < n → j < n → ex i j = true → i ∈ preds ops j
theorem headX_spec {ex : Nat → Nat → Bool} {k n m : Nat} (h : headX ops ex k n m = true) : HeadX ops ex k n m := by
 simp only [headX, Bool.and_eq_true, List.all_eq_true, List.mem_range, decide_eq_true_eq, Bool.or_eq_true] at h; obtain ⟨⟨⟨⟨⟨h1, h2⟩, h3⟩, h4⟩, h5⟩, h6⟩ := h; refine ⟨fun i d hki hi hd => ?_, fun i j d hki hi hkj hj hd hd' => ?_, fun i o t j hki hi ho ht hkj hj hd => ?_, Region.noSelect_spec h3, h4, h5, fun i j hi hj he => ?_⟩
 ·have := (h1 i hi).resolve_left (by omega)
  simp only [hd, Bool.and_eq_true, decide_eq_true_eq] at this; exact this.1
 ·have := (h1 i hi).resolve_left (by omega)
  simp only [hd, Bool.and_eq_true, List.all_eq_true, List.mem_range] at this; have := this.2 j hj; have hnk : ¬ j < k := by omega
  simpa [hd', hnk] using this
 ·have := (h2 i hi).resolve_left (by omega)
  simp only [ho, List.all_eq_true, List.mem_range] at this; have := this t ht j hj; have hnk : ¬ j < k := by omega
  simpa [hd, hnk] using this
 ·have := h6 i hi j hj
  simpa [he] using this
def LeftM (dst : Option Tmp) (ds : List Deferred) (w : World) (Mi : Nat → Prop) (S : Value → World → Prop) (K : Value → Option Nat) (a' : Act) (w' : World) : Prop :=
 a'.defers = ds ∧ Keeps w w' Mi ∧ S (match dst with | some d => a'.tmps.getD d undef | none => undef) w' ∧
  (∀ b, K (match dst with | some d => a'.tmps.getD d undef | none => undef) = some b → w.heap.size ≤ b ∧ b < w'.heap.size)
structure HM (ops : Array Oper) (k n : Nat) (ms : List (Nat × Nat)) (S : Nat → Value → World → Prop) (F : Nat → Value → Option Nat) (a0 : Act) (w0 : World) (L : Array Bool) (a : Act) (w : World) (v : Nat → Value) : Prop where
 defers : a.defers = a0.defers
 size : a.tmps.size = a0.tmps.size
 grow : Keeps w0 w (fun b => ∃ j, L.getD j false = true ∧ (j, b) ∈ ms)
 slots : ∀ (i d : Nat), k ≤ i → i < n → L.getD i false = true → dstOf ops i = some d → a.tmps[d]? = some (v i)
 others : ∀ s, (∀ i, k ≤ i → i < n → L.getD i false = true → dstOf ops i ≠ some s) → a.tmps[s]? = a0.tmps[s]?
 holds : ∀ i, k ≤ i → i < n → L.getD i false = true → S i (v i) w
 fresh : ∀ i, k ≤ i → i < n → L.getD i false = true → ∀ b, F i (v i) = some b → b < w.heap.size
 apart : ∀ i j, k ≤ i → i < n → k ≤ j → j < n → L.getD i false = true → L.getD j false = true → i ≠ j → ∀ b, F i (v i) = some b → F j (v j) ≠ some b
theorem rest_parM (k n m : Nat) (ms : List (Nat × Nat)) (ex : Nat → Nat → Bool) (S : Nat → Value → World → Prop) (F : Nat → Value → Option Nat) {a0 : Act} {w0 : World} (hB : backB ops = true)
 (hH : headX ops ex k n m = true) (hsz : a0.tmps.size = m) (hcut : n = ops.size ∨ cutB ops k n = true)
 (hS : ∀ i v w w', k ≤ i → i < n → S i v w → w0.heap.size ≤ w.heap.size → Keeps w w' (fun b => ∃ j, j ≠ i ∧ (j, b) ∈ ms) → S i v w')
 (hop : ∀ i o, k ≤ i → i < n → ops[i]? = some o → ∀ (v : Nat → Value) w, Keeps w0 w (fun b => b ∈ nOf ops ms i) → (∀ j, (preds ops i).contains j = true → k ≤ j → j < n → S j (v j) w) →
   wpList P ops (only (LeftM o.dst a0.defers w (fun b => (i, b) ∈ ms) (S i) (F i))) [o] (putX ops ex i v k (n - k) a0) w)
 (hend : ∀ (v : Nat → Value) w, Keeps w0 w (fun b => ∃ j, (j, b) ∈ ms) → (∀ i, k ≤ i → i < n → S i (v i) w) → (∀ i j, k ≤ i → i < n → k ≤ j → j < n → i ≠ j → ∀ b, F i (v i) = some b → F j (v j) ≠ some b) →
   Reg.Rest P ops Q n (putAll ops v k (n - k) a0) w) : Reg.Rest P ops Q k a0 w0 := by
 have H := headX_spec hH; have hkn := H.kn; intro L0 g0 h10 h20; refine wpAny_upto (k := k) (n := n) (fun L a w => ∃ v, HM ops k n ms S F a0 w0 L a w v) hB H.le hcut ?_ ?_ _ L0 a0 w0 g0 (count_rest g0 h10 h20) (fun i hi => h10 i hi (by have := H.le; omega)) (fun t ht => h20 t (by omega)) ?_
 ·intro L a w i o g hin ho hu hall htail hlow ⟨v, h⟩
  have hki : k ≤ i := by
   rcases Nat.lt_or_ge i k with hlt | hge
   ·have := hlow i hlt
    rw [getD_both hu] at this; cases this
   ·exact hge
  have hilt : i < ops.size := (Array.getElem?_eq_some_iff.1 ho).1; have hp : ∀ j ∈ preds ops i, L.getD j false = true := preds_listed ho hall
  let v' : Nat → Value := fun j => if L.getD j false then v j else undef
  have hv' : ∀ j, L.getD j false = true → v' j = v j := fun j hj => by simp only [v', hj, if_true]
  obtain ⟨q1, q2, q3, q4⟩ := putX_spec (ops := ops) (ex := ex) (i0 := i) (v := v') (a := a0) H.inj (n - k) (by omega); rw [show k + (n - k) = n from by omega] at q3 q4
  have hLi0 : L.getD i false = false := by have hl : i < L.size := by (rw [g.size]; exact hilt)
                                           simp [hl] at hu ⊢; exact hu
  have hun : ∀ j, j < n → ex i j = true → L.getD j false = false := fun j hj he => by
   cases hc : L.getD j false with
   | false => rfl
   | true => have := listed_preds g hc i (H.waits i j hin hj he); rw [hLi0] at this; cases this
  have hlook : ∀ t ∈ o.looksAt ops, (putX ops ex i v' k (n - k) a0).tmps[t]? = a.tmps[t]? := by
   intro (t : Nat) ht
   by_cases hs : ∃ j, k ≤ j ∧ j < n ∧ dstOf ops j = some t
   ·obtain ⟨j, hkj, hj, hd⟩ := hs
    cases he : ex i j with
    | false =>
      have hjl := hp j ((H.sees i o t j hki hin ho ht hkj hj hd).resolve_right (by rw [he]; decide)); rw [q3 j t hkj hj he hd (by have := H.lt j t hkj hj hd; rw [hsz]; exact this), h.slots j t hkj hj hjl hd, hv' j hjl]
    | true =>
      have hjn := hun j hj he; rw [q4 t fun j' hkj' hj' he' hd' => by have := H.inj j' j t hkj' hj' hkj hj hd' hd; rw [this, he] at he'; cases he']; exact (h.others t fun j' hkj' hj' hl' hd' => by have := H.inj j' j t hkj' hj' hkj hj hd' hd; rw [this, hjn] at hl'; cases hl').symm
   ·rw [q4 t fun j hkj hj _ hd => hs ⟨j, hkj, hj, hd⟩]
    exact (h.others t fun j hkj hj _ hd => hs ⟨j, hkj, hj, hd⟩).symm
  have hLi : L.getD i false = false := by have hl : i < L.size := by (rw [g.size]; exact hilt)
                                          simp [hl] at hu ⊢; exact hu
  have hgr : Keeps w0 w (fun b => b ∈ nOf ops ms i) := ⟨h.grow.os, h.grow.tape, h.grow.output, h.grow.size, fun b hb hn => h.grow.block b hb fun ⟨j, hj, hm⟩ => hn (mem_nOf hm (fun e => by rw [e, hLi] at hj; cases hj) fun hc => by have := listed_preds g hj i hc; rw [hLi] at this; cases this)⟩; have hlk := hop i o hki hin ho v' w hgr (fun j hj hkj hjn => by have hj' := hp j (by simpa using hj); rw [hv' j hj']; exact h.holds j hkj hjn hj'); refine wpOp_of_only ho (K := LeftM o.dst a0.defers w (fun b => (i, b) ∈ ms) (S i) (F i)) (fun a' w' hk => hk.1.trans q1.symm) ?_ ?_ ?_ hlk
  ·refine execOp_congr o (fun cs b => H.nosel i o cs b ho) fun x hx => ?_
   cases x with
   | tmp t => exact getD_eq_of (hlook t (List.mem_append_left _ (List.mem_filterMap.2 ⟨.tmp t, by simpa using hx, rfl⟩)))
   | _ => rfl
  ·unfold Region.wanted
   cases hg : o.guard with
   | none => rfl
   | some gw =>
     obtain ⟨gj, want⟩ := gw
     have : yielded ops (putX ops ex i v' k (n - k) a0).tmps gj = yielded ops a.tmps gj := by
      unfold yielded; cases ht : (ops[gj]?).bind (·.dst) with
      | none => rfl
      | some t => simp only [Option.bind_some, hlook t (by simp [Oper.looksAt, hg, ht])]
     simp only [this]
  ·intro u w' hk
   obtain ⟨hkd, hkg, hks, hkf⟩ := hk
   have hval : ∀ d : Nat, o.dst = some d → ((putX ops ex i v' k (n - k) a0).put o.dst u).tmps.getD d undef = u := fun d hd => by
    have hd' : dstOf ops i = some d := by simp [dstOf, ho, hd]
    have hlt := H.lt i d hki hin hd'; have : d < (putX ops ex i v' k (n - k) a0).tmps.size := by rw [q2, hsz]; exact hlt
    simp [hd, Act.put, this]
   let u' : Value := match o.dst with | some _ => u | none => undef
   have hu' : (match o.dst with | some d => ((putX ops ex i v' k (n - k) a0).put o.dst u).tmps.getD d undef | none => undef) = u' := by
    cases hd : o.dst with
    | none => simp only [u', hd]
    | some d => have := hval d hd; rw [hd] at this; simp only [u', hd]; exact this
   rw [hu'] at hks hkf; have hLn : ∀ j, j ≠ i → (L.setIfInBounds i true).getD j false = L.getD j false := fun j hj => getD_set_ne false (Ne.symm hj)
   refine ⟨fun j => if j = i then u' else v j, ?_, ?_, ?_, ?_, ?_, ?_, ?_, ?_⟩
   ·cases hd : o.dst <;> simp [Act.put, h.defers]
   ·cases hd : o.dst <;> simp [Act.put, h.size]
   ·refine ⟨hkg.os.trans h.grow.os, hkg.tape.trans h.grow.tape, hkg.output.trans h.grow.output, Nat.le_trans h.grow.size hkg.size, fun b hb hn => (hkg.block b (Nat.lt_of_lt_of_le hb h.grow.size) fun hm => hn ⟨i, by simp [g.size, hilt], hm⟩).trans (h.grow.block b hb fun ⟨j, hj, hm⟩ => hn ⟨j, getD_set_true hj, hm⟩)⟩
   ·intro j d hkj hj hjl hd
    by_cases hji : j = i
    ·subst hji
     have hd' : o.dst = some d := by simpa [dstOf, ho] using hd
     have hlt := H.lt j d hkj hj hd; have : d < a.tmps.size := by rw [h.size, hsz]; exact hlt
     simp [hd', Act.put, this, u']
    ·rw [hLn j hji] at hjl
     have h0 := h.slots j d hkj hj hjl hd; cases hdo : o.dst with
     | none => simp [Act.put, hji, h0]
     | some d' =>
       have hne : d' ≠ d := fun e => hji (H.inj j i d hkj hj hki hin hd (by simp [dstOf, ho, hdo, e]))
       simp [Act.put, hji, Array.getElem?_setIfInBounds_ne hne, h0]
   ·intro s hs
    have h0 := h.others s fun j hkj hj hjl hd => by
     by_cases hji : j = i
     ·subst hji
      rw [getD_both hu] at hjl; cases hjl
     ·exact hs j hkj hj (by rw [hLn j hji]; exact hjl) hd
    cases hdo : o.dst with
    | none => simpa [Act.put] using h0
    | some d' =>
      have hne : d' ≠ s := fun e => hs i hki hin (by simp [g.size, hilt]) (by simp [dstOf, ho, hdo, e])
      simpa [Act.put, Array.getElem?_setIfInBounds_ne hne] using h0
   ·intro j hkj hj hjl
    by_cases hji : j = i
    ·subst hji; simpa using hks
    ·rw [hLn j hji] at hjl
     simpa [hji] using hS j _ _ _ hkj hj (h.holds j hkj hj hjl) h.grow.size ⟨hkg.os, hkg.tape, hkg.output, hkg.size, fun b hb hn => hkg.block b hb fun hm => hn ⟨i, Ne.symm hji, hm⟩⟩
   ·intro j hkj hj hjl b hb
    by_cases hji : j = i
    ·subst hji
     exact (hkf b (by simpa using hb)).2
    ·rw [hLn j hji] at hjl
     have := h.fresh j hkj hj hjl b (by simpa [hji] using hb); have := hkg.size; omega
   ·intro j q hkj hj hkq hq hjl hql hne b hb
    by_cases hji : j = i
    ·subst hji
     have hqi : q ≠ j := Ne.symm hne; rw [hLn q hqi] at hql; have h1 := (hkf b (by simpa using hb)).1; intro e; have h2 := h.fresh q hkq hq hql b (by simpa [hqi] using e); omega
    ·rw [hLn j hji] at hjl
     by_cases hqi : q = i
     ·subst hqi
      have h2 := h.fresh j hkj hj hjl b (by simpa [hji] using hb); intro e; have h1 := (hkf b (by simpa using e)).1; omega
     ·rw [hLn q hqi] at hql
      have := h.apart j q hkj hj hkq hq hjl hql hne b (by simpa [hji] using hb)
      simpa [hqi] using this
 ·intro L a w hall ⟨v, h⟩
  obtain ⟨q1, q2, q3, q4⟩ := putAll_spec (ops := ops) (v := v) (a := a0) H.inj (n - k) (by omega); rw [show k + (n - k) = n from by omega] at q3 q4
  have : a = putAll ops v k (n - k) a0 := by
   obtain ⟨t, d⟩ := a; generalize hp : putAll ops v k (n - k) a0 = b at *; obtain ⟨t', d'⟩ := b; have e1 : d = d' := h.defers.trans q1.symm
   have e2 : t = t' := by
    apply Array.ext_getElem?
    intro (s : Nat)
    by_cases hs : ∃ i, k ≤ i ∧ i < n ∧ dstOf ops i = some s
    ·obtain ⟨i, hki, hi, hd⟩ := hs
     have hl := H.lt i s hki hi hd; exact (h.slots i s hki hi (hall i hi) hd).trans (q3 i s hki hi hd (hsz ▸ hl)).symm
    ·exact (h.others s fun i hki hi _ hd => hs ⟨i, hki, hi, hd⟩).trans (q4 s fun i hki hi hd => hs ⟨i, hki, hi, hd⟩).symm
   rw [e1, e2]
  rw [this]; exact hend v w ⟨h.grow.os, h.grow.tape, h.grow.output, h.grow.size, fun b hb hn => h.grow.block b hb fun ⟨j, _, hm⟩ => hn ⟨j, hm⟩⟩ (fun i hki hi => h.holds i hki hi (hall i hi)) (fun i j hki hi hkj hj => h.apart i j hki hi hkj hj (hall i hi) (hall j hj))
 ·have hno : ∀ i, k ≤ i → L0.getD i false = true → False := fun i hki hl => by rw [h20 i hki] at hl; cases hl
  exact ⟨fun _ => undef, rfl, rfl, Keeps.refl _ _, fun i d hki _ hl => (hno i hki hl).elim, fun _ _ => rfl, fun i hki _ hl => (hno i hki hl).elim, fun i hki _ hl => (hno i hki hl).elim, fun i j hki _ _ _ hl => (hno i hki hl).elim⟩
def HopsM (P : Program) (ops : Array Oper) (k n : Nat) (ms : List (Nat × Nat)) (ex : Nat → Nat → Bool) (S : Nat → Value → World → Prop) (F : Nat → Value → Option Nat) (a0 : Act) (w0 : World) : Nat → List Oper → Prop
 | _, [] => True
 | i, o :: rest => (∀ (v : Nat → Value) (w : World), Keeps w0 w (fun b => b ∈ nOf ops ms i) → (∀ j, (preds ops i).contains j = true → k ≤ j → j < n → S j (v j) w) →
    ∀ Q' : Exit → Act → World → Prop, (∀ a' w', LeftM o.dst a0.defers w (fun b => (i, b) ∈ ms) (S i) (F i) a' w' → Q' .normal a' w') → wpList P ops Q' [o] (putX ops ex i v k (n - k) a0) w) ∧ HopsM P ops k n ms ex S F a0 w0 (i + 1) rest
theorem hopsM_get {k n : Nat} {ms : List (Nat × Nat)} {ex : Nat → Nat → Bool} {S : Nat → Value → World → Prop} {F : Nat → Value → Option Nat} {a0 : Act} {w0 : World} : ∀ (l : List Oper) (q : Nat), HopsM P ops k n ms ex S F a0 w0 q l → ∀ i o, l[i]? = some o →
 ∀ (v : Nat → Value) w, Keeps w0 w (fun b => b ∈ nOf ops ms (q + i)) → (∀ j, (preds ops (q + i)).contains j = true → k ≤ j → j < n → S j (v j) w) →
   ∀ Q' : Exit → Act → World → Prop, (∀ a' w', LeftM o.dst a0.defers w (fun b => (q + i, b) ∈ ms) (S (q + i)) (F (q + i)) a' w' → Q' .normal a' w') → wpList P ops Q' [o] (putX ops ex (q + i) v k (n - k) a0) w
 | [], _, _, i, o, hi => by simp at hi
 | x :: l, q, h, 0, o, hi => by
   obtain rfl : x = o := by simpa using hi
   exact h.1
 | x :: l, q, h, i + 1, o, hi => by
   have := hopsM_get l (q + 1) h.2 i o (by simpa using hi); rw [show q + 1 + i = q + (i + 1) from by omega] at this; exact this
theorem rest_opsM (k n m : Nat) (ms : List (Nat × Nat)) (ex : Nat → Nat → Bool) (ls : List Oper) (S : Nat → Value → World → Prop) (F : Nat → Value → Option Nat) {a0 : Act} {w0 : World} {l : List Oper} (hls : (l.drop k).take (n - k) = ls) (hB : backB l.toArray = true)
 (hH : headX l.toArray ex k n m = true) (hsz : a0.tmps.size = m) (hcut : n = l.toArray.size ∨ cutB l.toArray k n = true)
 (hS : ∀ i v w w', k ≤ i → i < n → S i v w → w0.heap.size ≤ w.heap.size → Keeps w w' (fun b => ∃ j, j ≠ i ∧ (j, b) ∈ ms) → S i v w')
 (hop : HopsM P l.toArray k n ms ex S F a0 w0 k ls)
 (hend : ∀ (v : Nat → Value) w, Keeps w0 w (fun b => ∃ j, (j, b) ∈ ms) → (∀ i, k ≤ i → i < n → S i (v i) w) → (∀ i j, k ≤ i → i < n → k ≤ j → j < n → i ≠ j → ∀ b, F i (v i) = some b → F j (v j) ≠ some b) →
   Reg.Rest P l.toArray Q n (putAll l.toArray v k (n - k) a0) w) : Reg.Rest P l.toArray Q k a0 w0 := by
 subst hls; refine rest_parM k n m ms ex S F hB hH hsz hcut hS (fun i o hki hi ho v w hb hs => ?_) hend; have := hopsM_get _ k hop (i - k) o (by rw [List.getElem?_take, List.getElem?_drop, if_pos (by omega), show k + (i - k) = i from by omega]; simpa using ho) v w (by rw [show k + (i - k) = i from by omega]; exact hb); rw [show k + (i - k) = i from by omega] at this; exact this (fun j hj => hs j (by simpa using hj)) _ fun a' w' h => h
end
end Go.Proofs.Ytcbijikalfodnaa.Tms
namespace Go.Proofs.Ytcbijikalfodnaa.Tms
open Go Go.RowKit Go.Proofs.Ytcbijikalfodnaa.Reg Go.Proofs.Ytcbijikalfodnaa.Rws Go.Proofs.Ytcbijikalfodnaa.Maps
open Go.Proofs.Ytcbijikalfodnaa.Cod (Ins Cod sk check slotsN InsSl InsAt)
def pqKind : Rws.Kind (List Int × List Int) where
 T := 122
 sz := 2
 R := fun w P cs c => ∃ va vb, cs = [va, vb] ∧ IntSl w P va c.1 ∧ IntSl w P vb c.2
 pos := by decide
 len := by rintro w P cs a ⟨va, vb, rfl, -⟩; rfl
 one := by
  rintro w P cs a ⟨va, vb, rfl, ha, hb⟩ v hv; obtain ⟨q, c, rfl⟩ := ha.form; obtain ⟨q', c', rfl⟩ := hb.form; simp only [List.mem_cons, List.not_mem_nil, or_false] at hv; rcases hv with rfl | rfl <;> rfl
 mono := by rintro w w' P P' cs a hP hw ⟨va, vb, rfl, ha, hb⟩; exact ⟨va, vb, rfl, ha.move (fun b hb _ => hP b hb) hw, hb.move (fun b hb _ => hP b hb) hw⟩
 lt := by rintro w P cs a ⟨va, vb, rfl, ha, hb⟩; exact ⟨va, vb, rfl, ha.low, hb.low⟩
def tailO (c o : Nat) : Nat := if c = 1 then o else o + 1
theorem IntSl.tailE {w : World} {P : Nat → Prop} {b o n c : Nat} {x : Int} {T : List Int} (h : IntSl w P (.slice (some ⟨b, o, none⟩) (n + 1) c) (x :: T)) : IntSl w P (.slice (some ⟨b, tailO c o, none⟩) n (c - 1)) T := by
 obtain ⟨a, cap, e, h1, h2, h3⟩ := h; simp only [Value.slice.injEq, List.length_cons] at e h1; obtain ⟨rfl, e2, rfl⟩ := e; refine ⟨_, _, by rw [show n = T.length by omega], by omega, by omega, fun i hi => ?_⟩; obtain ⟨b', o', e1, hp, hl, hc⟩ := h3 (i + 1) (by simp; omega); simp only [Option.some.injEq, Addr.mk.injEq, and_true] at e1; obtain ⟨rfl, rfl⟩ := e1; refine ⟨_, _, rfl, hp, hl, ?_⟩; unfold tailO; rw [if_neg (by omega), show o + 1 + i = o + (i + 1) by omega, hc]; rfl
theorem slice_rest {b o m c : Nat} (h : m + 1 ≤ c) (w : World) : (Instr.slice 38 (.slice (some ⟨b, o, none⟩) (m + 1) c) (some (.int .i64 1)) none none).run Try.prog w = .ok (.slice (some ⟨b, tailO c o, none⟩) m (c - 1)) w := by
 have ht : Try.prog.underlying 38 = some (.slice (Try.prog.elem 38)) := by kernel_rfl
 have hs : (sizeOf (Try.prog.elem 38)).run Try.prog w = .ok 1 w := by kernel_rfl
 rw [run_slice_l w 38 _ _ _ ht .i64 1 (by decide) (by omega), hs]; unfold tailO
 by_cases hc : c = 1
 ·subst hc
  obtain rfl : m = 0 := by omega
  simp [Result.andThen, sliced]
 ·simp [Result.andThen, sliced, hc]
  rfl
theorem IntSl.headE {w : World} {P : Nat → Prop} {v : Value} {x : Int} {T : List Int} (h : IntSl w P v (x :: T)) : ∃ b o c, v = .slice (some ⟨b, o, none⟩) (T.length + 1) c ∧ T.length + 1 ≤ c ∧ c ≤ maxLen ∧ P b ∧ b < w.heap.size ∧ w.cell? ⟨b, o, none⟩ = some (.int .i64 x) := by
 obtain ⟨a, cap, e, h1, h2, h3⟩ := h; obtain ⟨b, o, rfl, hp, hl, hc⟩ := h3 0 (by simp); exact ⟨b, o, cap, by rw [e]; rfl, by simpa using h1, h2, hp, hl, by simpa using hc⟩
def flatW (Ws : List (List Int × List Int)) : List (Nat × Nat) := Ws.flatMap fun q => (q.1.map Int.toNat).zip (q.2.map Int.toNat)
structure WOk (q : List Int × List Int) : Prop where
 len : q.1.length = q.2.length
 some : q.1 ≠ []
 left : ∀ a ∈ q.1, (0 : Int) ≤ a
 right : ∀ b ∈ q.2, (0 : Int) ≤ b
theorem Own.estep {α : Type} {K : Rws.Kind α} {rb qb n base : Nat} {D D' : Nat → Prop} {w w' : World} {v : Value} {l : List α} (h : Own K w base (fun b => n ≤ b ∧ EOut rb qb D w b) v l) (hs : EStep rb qb D w D' w') (ho : ∀ b, v.ownBlock = some b → EOut rb qb D w b) : Own K w' base (fun b => n ≤ b ∧ EOut rb qb D' w' b) v l := by
 have hk := h.keep hs.size fun b hlt hb => by
  rcases hb with hb | hb
  ·exact (hs.blk b hb.2).2
  ·exact (hs.blk b (ho b hb)).2
 exact Own.mono hk fun b hb _ => ⟨hb.1, (hs.blk b hb.2).1⟩
section
variable {w0 w w' w'' : World} {p rb qb at_ k : Nat} {S : Sto} {D D' : Nat → Prop} {lv : Value} {L : List Ins} {sl : List Int} {M : Nat → Prop}
theorem ExAt.ownM (h : ExAt w0 p rb qb S D lv L at_ sl k w) (hk : Keeps w w' M) (hx : ∀ x, M x → x < w.heap.size → EOut rb qb D w x ∧ w0.heap.size ≤ x ∧ slBlk lv ≠ some x) : ExAt w0 p rb qb S D lv L at_ sl k w' := by
 have hb := h.law.bel
 have hno : ∀ b, b < w.heap.size → D b ∨ b = rb ∨ b = qb ∨ slBlk lv = some b → ¬ M b := fun b hlt hb' hm => by
  obtain ⟨h1, h2, h3⟩ := hx b hm hlt; rcases hb' with hb' | hb' | hb' | hb'
  ·exact h1.1 hb'
  ·exact h1.2.1 hb'
  ·exact h1.2.2.1 hb'
  ·exact h3 hb'
 exact h.other ⟨hk.os.trans hb.os, hk.tape.trans hb.tape, hk.output.trans hb.output, Nat.le_trans hb.size hk.size, fun b hlt => (hk.block b (Nat.lt_of_lt_of_le hlt hb.size) (fun hm => by have := (hx b hm (Nat.lt_of_lt_of_le hlt hb.size)).2.1; omega)).trans (hb.block b hlt)⟩ hk.size fun b hlt hb' => hk.block b hlt (hno b hlt hb')
theorem EStep.ownM (h : EStep rb qb D w D' w') (hk : Keeps w' w'' M) (hx : ∀ x, M x → x < w'.heap.size → w.heap.size ≤ x) : EStep rb qb D w D' w'' :=
 ⟨Nat.le_trans h.size hk.size, fun b hb => ⟨⟨(h.blk b hb).1.1, hb.2.1, hb.2.2.1, Nat.lt_of_lt_of_le (h.blk b hb).1.2.2.2 hk.size⟩, (hk.block b (h.blk b hb).1.2.2.2 (fun hm => by have := hx b hm (h.blk b hb).1.2.2.2; have := hb.2.2.2; omega)).trans (h.blk b hb).2⟩⟩
end
structure UnAt (w0 : World) (p rb qb : Nat) (lv : Value) (L : List Ins) (at_ : Nat) (sl : List Int) (r : Option Bool × Sto × Nat) (D0 : Nat → Prop) (w : World) (f : Nat) (S : Sto) (D : Nat → Prop) (k : Nat) (Ws : List (List Int × List Int)) (wv : Value) (wr : World) : Prop where
 ex : ExAt w0 p rb qb S D lv L at_ sl k wr
 st : EStep rb qb D0 w D wr
 inv : Inv S
 wait : Own pqKind wr w.heap.size (fun b => w.heap.size ≤ b ∧ EOut rb qb D wr b) wv Ws.reverse
 own : ∀ b, wv.ownBlock = some b → EOut rb qb D wr b
 ok : ∀ q ∈ Ws, WOk q
 inn : InL S (flatW Ws)
 kle : k ≤ 20000
 fuel : 20000 - k ≤ f
 len : Ws.length ≤ 1 + k
 eq : r = uniK false (20000 - k) S (flatW Ws)
 lvF : ∀ b, slBlk lv = some b → b < w.heap.size
 low : w0.heap.size ≤ w.heap.size
def UnRel (w0 : World) (p rb qb : Nat) (lv : Value) (L : List Ins) (at_ : Nat) (sl : List Int) (r : Option Bool × Sto × Nat) (D0 : Nat → Prop) (w : World) (f : Nat) (wv : Value) (wr : World) : Prop := ∃ S D k Ws, UnAt w0 p rb qb lv L at_ sl r D0 w f S D k Ws wv wr
section
variable {w0 w wr w2 : World} {p rb qb at_ k f g n cap : Nat} {S S' : Sto} {D D' D0 : Nat → Prop} {lv wv : Value} {L : List Ins} {sl : List Int} {r : Option Bool × Sto × Nat} {Ws : List (List Int × List Int)} {x y : Int} {A B : List Int}
theorem UnAt.top {m : Nat} (h : UnAt w0 p rb qb lv L at_ sl r D0 w f S D k ((x :: A, y :: B) :: Ws) (.slice (some ⟨g, 0, none⟩) (n + 1) cap) wr) (hn : n = Ws.length) (hm : m = A.length) (hm2 : m = B.length) :
 n + 1 ≤ cap ∧ cap ≤ maxLen ∧ ∃ b1 o1 c1 b2 o2 c2, wr.cell? ⟨g, n * 2, none⟩ = some (.slice (some ⟨b1, o1, none⟩) (m + 1) c1) ∧ wr.cell? ⟨g, n * 2 + 1, none⟩ = some (.slice (some ⟨b2, o2, none⟩) (m + 1) c2) ∧
   (m + 1 ≤ c1 ∧ c1 ≤ maxLen ∧ b1 < wr.heap.size ∧ wr.cell? ⟨b1, o1, none⟩ = some (.int .i64 x)) ∧ (m + 1 ≤ c2 ∧ c2 ≤ maxLen ∧ b2 < wr.heap.size ∧ wr.cell? ⟨b2, o2, none⟩ = some (.int .i64 y)) ∧
   IntSl wr (fun b => (w.heap.size ≤ b ∧ EOut rb qb D wr b) ∧ g ≠ b ∧ b < wr.heap.size) (.slice (some ⟨b1, tailO c1 o1, none⟩) m (c1 - 1)) A ∧ IntSl wr (fun b => (w.heap.size ≤ b ∧ EOut rb qb D wr b) ∧ g ≠ b ∧ b < wr.heap.size) (.slice (some ⟨b2, tailO c2 o2, none⟩) m (c2 - 1)) B := by
 have ho := h.wait; rw [List.reverse_cons] at ho; obtain ⟨-, h2, h3, cs, ⟨va, vb, rfl, ha, hb⟩, hc⟩ := ho.pop (by simp [hn]); obtain ⟨b1, o1, c1, rfl, g1, g2, g3, g4, g5⟩ := ha.headE; obtain ⟨b2, o2, c2, rfl, k1, k2, k3, k4, k5⟩ := hb.headE; rw [← hm] at ha hc g1; rw [← hm2] at hb hc k1; exact ⟨h2, h3, b1, o1, c1, b2, o2, c2, hc 0 (by decide), hc 1 (by decide), ⟨g1, g2, g4, g5⟩, ⟨k1, k2, k4, k5⟩, ha.tailE, hb.tailE⟩
end
theorem UnAt.below {w0 w wr w2 : World} {p rb qb at_ k f : Nat} {S : Sto} {D D0 : Nat → Prop} {lv wv : Value} {L : List Ins} {sl : List Int} {r : Option Bool × Sto × Nat} {Ws : List (List Int × List Int)} (h : UnAt w0 p rb qb lv L at_ sl r D0 w f S D k Ws wv wr) (hb : Below wr.heap.size wr w2) : UnAt w0 p rb qb lv L at_ sl r D0 w f S D k Ws wv w2 :=
 let ⟨h1, s1, _⟩ := h.ex.below hb
 ⟨h1, h.st.trans s1, h.inv, Own.estep h.wait s1 h.own, fun b e => (s1.blk b (h.own b e)).1, h.ok, h.inn, h.kle, h.fuel, h.len, h.eq, h.lvF, h.low⟩
theorem oneP_k (S : Sto) (k a b : Nat) : (oneP S false k a b).1.2.2 = k := by
 unfold oneP bindP
 split
 ·rfl
 split
 ·simp
 split
 ·simp
 split <;> rfl
theorem EOut.keepE {rb qb : Nat} {D : Nat → Prop} {w w' : World} {b : Nat} (h : EOut rb qb D w b) (hz : w.heap.size ≤ w'.heap.size) : EOut rb qb D w' b := ⟨h.1, h.2.1, h.2.2.1, Nat.lt_of_lt_of_le h.2.2.2 hz⟩
theorem uniK_end (k : Nat) (S : Sto) : uniK false k S [] = (some true, S, k) := uniK_nil false k S
def SetE (W0 : World) (g i : Nat) (v : Value) (u : World) : Prop := u.heap[g]? = (W0.setCell ⟨g, i, none⟩ v).heap[g]? ∧ g < u.heap.size
theorem frozen_eqE {w w' : World} {g : Nat} (h : w'.heap[g]? = w.heap[g]?) (k : Nat) : w'.frozen? ⟨g, k, none⟩ = w.frozen? ⟨g, k, none⟩ := by
 simp [World.frozen?, h]
theorem heap_setE {w w' : World} {g : Nat} (h : w'.heap[g]? = w.heap[g]?) (k : Nat) (v : Value) : (w'.setCell ⟨g, k, none⟩ v).heap[g]? = (w.setCell ⟨g, k, none⟩ v).heap[g]? := by
 simp [World.setCell, Array.getElem?_modify, h]
theorem keepsE (W : World) (b k : Nat) (v : Value) : Keeps W (W.setCell ⟨b, k, none⟩ v) (fun x => x = b) := ⟨rfl, rfl, rfl, by simp [World.setCell], fun _ _ hb => Below.heap_setCell _ _ _ _ hb⟩
structure UnMid (w0 : World) (p rb qb : Nat) (lv : Value) (L : List Ins) (at_ : Nat) (sl : List Int) (D0 : Nat → Prop) (w : World) (S : Sto) (D : Nat → Prop) (k : Nat) (l : List (List Int × List Int)) (wv : Value) (wr : World) : Prop where
 ex : ExAt w0 p rb qb S D lv L at_ sl k wr
 st : EStep rb qb D0 w D wr
 wait : Own pqKind wr w.heap.size (fun b => w.heap.size ≤ b ∧ EOut rb qb D wr b) wv l
 own : ∀ b, wv.ownBlock = some b → EOut rb qb D wr b
section
variable {w0 w wr w2 : World} {p rb qb at_ k k2 f g n cap : Nat} {S S' : Sto} {D D' D0 : Nat → Prop} {lv wv : Value} {L : List Ins} {sl : List Int} {r : Option Bool × Sto × Nat} {Ws l : List (List Int × List Int)} {x y : Int} {A B : List Int}
theorem UnMid.step (h : UnMid w0 p rb qb lv L at_ sl D0 w S D k l wv wr) (hx : ExAt w0 p rb qb S' D' lv L at_ sl k2 w2) (hs : EStep rb qb D wr D' w2) : UnMid w0 p rb qb lv L at_ sl D0 w S' D' k2 l wv w2 :=
 ⟨hx, h.st.trans hs, Own.estep h.wait hs h.own, fun b e => (hs.blk b (h.own b e)).1⟩
theorem UnMid.below (h : UnMid w0 p rb qb lv L at_ sl D0 w S D k l wv wr) (hb : Below wr.heap.size wr w2) : UnMid w0 p rb qb lv L at_ sl D0 w S D k l wv w2 :=
 let ⟨h1, s1, _⟩ := h.ex.below hb
 h.step h1 s1
theorem un_stored {W1 u : World} (h : UnAt w0 p rb qb lv L at_ sl r D0 w f S D k ((x :: A, y :: B) :: Ws) (.slice (some ⟨g, 0, none⟩) (n + 1) cap) W1) (hn : n = Ws.length) {va vb : Value} (hs : SetE W1 g (n * 2) va u) (hk : Keeps W1 u (fun b => b = g))
 (ha : IntSl W1 (fun b => (w.heap.size ≤ b ∧ EOut rb qb D W1 b) ∧ g ≠ b ∧ b < W1.heap.size) va A) (hb : IntSl W1 (fun b => (w.heap.size ≤ b ∧ EOut rb qb D W1 b) ∧ g ≠ b ∧ b < W1.heap.size) vb B) :
 (∃ z, u.cell? ⟨g, n * 2 + 1, none⟩ = some z) ∧ u.frozen? ⟨g, n * 2 + 1, none⟩ = false ∧ UnMid w0 p rb qb lv L at_ sl D0 w S D k (Ws.reverse ++ [(A, B)]) (.slice (some ⟨g, 0, none⟩) (n + 1) cap) (u.setCell ⟨g, n * 2 + 1, none⟩ vb) := by
 have hw := h.wait; have hl : (((x :: A, y :: B) :: Ws).reverse).length = n + 1 := by simp [hn]
 have hnl : n < (((x :: A, y :: B) :: Ws).reverse).length := by omega
 have he : (((x :: A, y :: B) :: Ws).reverse)[n] = (x :: A, y :: B) := by simp [hn]
 have hgo := h.own g rfl; have hgl := (hw.low g rfl)
 have h1 := hw.stored hl n hnl 0 (by decide) va (A, y :: B) (fun cs hr => by
  rw [he] at hr; obtain ⟨va0, vb0, rfl, -, hb0⟩ := hr; exact ⟨va, vb0, rfl, ha.move (fun b hb _ => ⟨hb.1, fun e => hb.2.1 (by simpa [Value.ownBlock] using e), hb.2.2⟩) (fun _ _ _ => rfl), hb0⟩)
 have hz : (W1.setCell ⟨g, n * 2 + 0, none⟩ va).heap.size = W1.heap.size := by simp [World.setCell]
 have h2 : Own pqKind u w.heap.size (fun b => w.heap.size ≤ b ∧ EOut rb qb D W1 b) (.slice (some ⟨g, 0, none⟩) (n + 1) cap) ((((x :: A, y :: B) :: Ws).reverse).set n (A, y :: B)) := by
  refine h1.keep (by have := hk.size; have e : (W1.setCell ⟨g, n * pqKind.sz + 0, none⟩ va).heap.size = W1.heap.size := hz; omega) fun b hlt hb => ?_
  have hlt' : b < W1.heap.size := by have e : (W1.setCell ⟨g, n * pqKind.sz + 0, none⟩ va).heap.size = W1.heap.size := hz; omega
  by_cases e : b = g
  ·subst e; exact hs.1
  ·exact (hk.block b hlt' e).trans (Below.heap_setCell _ _ _ _ e).symm
 have hl2 : ((((x :: A, y :: B) :: Ws).reverse).set n (A, y :: B)).length = n + 1 := by rw [List.length_set]; exact hl
 have hnl2 : n < ((((x :: A, y :: B) :: Ws).reverse).set n (A, y :: B)).length := by omega
 have hcell := h2.elem hl2 n hnl2
 have h3 := h2.stored hl2 n hnl2 1 (by decide) vb (A, B) (fun cs hr => by
  rw [List.getElem_set_self] at hr; obtain ⟨va0, vb0, rfl, ha0, -⟩ := hr; refine ⟨va0, vb, rfl, ha0, hb.move (fun b hb _ => ⟨hb.1, fun e => hb.2.1 (by simpa [Value.ownBlock] using e), Nat.lt_of_lt_of_le hb.2.2 hk.size⟩) fun b hb hlt => hk.block b hlt fun e => hb.2.1 e.symm⟩)
 have heq : ((((x :: A, y :: B) :: Ws).reverse).set n (A, y :: B)).set n (A, B) = Ws.reverse ++ [(A, B)] := by
  rw [List.set_set, List.reverse_cons, List.set_append_right _ _ (by simp [hn])]
  simp [hn]
 rw [heq] at h3; have hk2 : Keeps W1 (u.setCell ⟨g, n * 2 + 1, none⟩ vb) (fun b => b = g) := hk.trans (keepsE u g _ vb) fun b e => .inl e
 have hsz : W1.heap.size ≤ (u.setCell ⟨g, n * 2 + 1, none⟩ vb).heap.size := hk2.size; refine ⟨?_, h2.thaw hl2 _, h.ex.ownM hk2 ?_, h.st.ownM hk2 ?_, Own.mono h3 fun b hb _ => ⟨hb.1, hb.2.keepE hsz⟩, fun b e => (h.own b e).keepE hsz⟩
 ·obtain ⟨cs, ⟨va0, vb0, rfl, -, -⟩, hc⟩ := hcell
  exact ⟨vb0, hc 1 (by decide)⟩
 ·rintro b rfl hlt
  exact ⟨hgo, by have := h.low; omega, fun e => by have := h.lvF b e; omega⟩
 ·rintro b rfl hlt
  exact hgl.1
theorem UnMid.put {v v' : Value} {q : List Int × List Int} {P : Nat → Prop} (h : UnMid w0 p rb qb lv L at_ sl D0 w S D k l v wr) (hP : P = fun b => w.heap.size ≤ b ∧ EOut rb qb D wr b) (ho : Own pqKind w2 w.heap.size P v' (l ++ [q])) (hg : wr.grownBy w2 v.ownBlock) (hv : ∀ b, v'.ownBlock = some b → v.ownBlock = some b ∨ wr.heap.size ≤ b) (hlv : ∀ b, slBlk lv = some b → b < w.heap.size) (hlow : w0.heap.size ≤ w.heap.size) :
 UnMid w0 p rb qb lv L at_ sl D0 w S D k (l ++ [q]) v' w2 := by
 subst hP; have hk : Keeps wr w2 (fun b => v.ownBlock = some b) := Keeps.grown hg fun b e => .inl e
 refine ⟨h.ex.ownM hk fun b e hlt => ⟨h.own b e, by have := (h.wait.low b e).1; omega, fun e2 => by have := hlv b e2; have := (h.wait.low b e).1; omega⟩, h.st.ownM hk fun b e hlt => (h.wait.low b e).1, Own.mono ho fun b hb _ => ⟨hb.1, hb.2.keepE hk.size⟩, fun b e => ?_⟩; rcases hv b e with e1 | e1
 ·exact (h.own b e1).keepE hk.size
 ·exact ⟨fun hd => by have := h.ex.law.dl b hd; omega, fun e2 => by have := h.ex.rlt; omega, fun e2 => by have := h.ex.qlt; omega, (ho.low b e).2⟩
theorem UnMid.first (h : UnMid w0 p rb qb lv L at_ sl D0 w S D k (l ++ [(A, B)]) (.slice (some ⟨g, 0, none⟩) (n + 1) cap) wr) (hn : n = l.length) : ∃ a c, wr.cell? ⟨g, n * 2, none⟩ = some (.slice a A.length c) := by
 obtain ⟨-, -, -, cs, ⟨va, vb, rfl, ha, hb⟩, hc⟩ := h.wait.pop hn.symm; obtain ⟨a, c, rfl⟩ := ha.form; exact ⟨a, c, hc 0 (by decide)⟩
theorem UnMid.cut (h : UnMid w0 p rb qb lv L at_ sl D0 w S D k (l ++ [(A, B)]) (.slice (some ⟨g, 0, none⟩) (n + 1) cap) wr) (hn : n = l.length) : UnMid w0 p rb qb lv L at_ sl D0 w S D k l (.slice (some ⟨g, 0, none⟩) n cap) wr :=
 ⟨h.ex, h.st, (h.wait.pop hn.symm).1, fun b e => h.own b e⟩
end
theorem oneP_some (S : Sto) (sf : Bool) (k a b : Nat) (h : sf = false) : (oneP S sf k a b).1.1 ≠ none := by
 subst h; unfold oneP bindP
 split
 ·simp
 split
 ·simp
 split
 ·simp
 split <;> simp
theorem flat_top {x y : Nat} {A B : List Int} {Ws : List (List Int × List Int)} : flatW (((x : Int) :: A, (y : Int) :: B) :: Ws) = (x, y) :: flatW ((A, B) :: Ws) := by simp [flatW]
theorem flat_nil {Ws : List (List Int × List Int)} {B : List Int} : flatW (([], B) :: Ws) = flatW Ws := by simp [flatW]
theorem flat_cons {q : List Int × List Int} {Ws : List (List Int × List Int)} : flatW (q :: Ws) = (q.1.map Int.toNat).zip (q.2.map Int.toNat) ++ flatW Ws := by simp [flatW]
theorem ex_unify {w0 w : World} {p rb qb at_ k : Nat} {S : Sto} {D : Nat → Prop} {lv : Value} {L : List Ins} {sl : List Int} (h : ExAt w0 p rb qb S D lv L at_ sl k w) (hI : Inv S) (hk : k ≤ 20000) (a b : Nat) (ha : a < S.cells.length) (hb : b < S.cells.length) :
 Calls Try.prog 29 #[.pointer (some ⟨rb, 0, none⟩), .int .i64 a, .int .i64 b] w fun e w' => e = .returned (.tuple #[.bool (hasB (uniK false (20000 - k) S [(a, b)]).1), .int .i64 (hasE (uniK false (20000 - k) S [(a, b)]).1)]) ∧ ∃ D', ExAt w0 p rb qb (uniK false (20000 - k) S [(a, b)]).2.1 D' lv L at_ sl (20000 - (uniK false (20000 - k) S [(a, b)]).2.2) w' ∧ EStep rb qb D w D' w' := by
 obtain ⟨R, hR⟩ : ∃ R, R = uniK false (20000 - k) S [(a, b)] := ⟨_, rfl⟩; rw [← hR]; have hlv : ∀ b, slBlk lv = some b → b < w.heap.size := fun b e => (h.iF b e).1.2
 have hlw := h.law.bel.size; have b1 := below_new w (.cells #[.int .i64 a] 3 (0, 0)); have r1 := heap_alloc_new w (.cells #[.int .i64 a] 3 (0, 0)); obtain ⟨w1, hw1⟩ : ∃ w1, w1 = w.alloc (.cells #[.int .i64 a] 3 (0, 0)) := ⟨_, rfl⟩; have z1 : w1.heap.size = w.heap.size + 1 := by rw [hw1]; simp
 rw [← hw1] at b1 r1; have b2 := below_new w1 (.cells #[.int .i64 b] 3 (0, 0)); have r2 := heap_alloc_new w1 (.cells #[.int .i64 b] 3 (0, 0)); obtain ⟨w2, hw2⟩ : ∃ w2, w2 = w1.alloc (.cells #[.int .i64 b] 3 (0, 0)) := ⟨_, rfl⟩; have z2 : w2.heap.size = w.heap.size + 2 := by rw [hw2]; simp [z1]
 rw [← hw2] at b2 r2; rw [z1] at r2; have b3 := below_new w2 (.cells #[.slice (some ⟨w.heap.size, 0, none⟩) 1 1, .slice (some ⟨w.heap.size + 1, 0, none⟩) 1 1] 122 (0, 0)); have r3 := heap_alloc_new w2 (.cells #[.slice (some ⟨w.heap.size, 0, none⟩) 1 1, .slice (some ⟨w.heap.size + 1, 0, none⟩) 1 1] 122 (0, 0)); obtain ⟨w3, hw3⟩ : ∃ w3, w3 = w2.alloc (.cells #[.slice (some ⟨w.heap.size, 0, none⟩) 1 1, .slice (some ⟨w.heap.size + 1, 0, none⟩) 1 1] 122 (0, 0)) := ⟨_, rfl⟩; have z3 : w3.heap.size = w.heap.size + 3 := by rw [hw3]; simp [z2]
 rw [← hw3] at b3 r3; rw [z2] at r3
 have hst : UnRel w0 p rb qb lv L at_ sl R D w (20000 - k) (.slice (some ⟨w.heap.size + 2, 0, none⟩) 1 1) w3 := by
  have hb123 : Below w.heap.size w w3 := b1.trans ((b2.mono (by omega)).trans (b3.mono (by omega))); obtain ⟨h3, s3, f3⟩ := h.below hb123; have e1 : w3.heap[w.heap.size]? = some (.cells #[.int .i64 a] 3 (0, 0)) := (b3.block _ (by omega)).trans ((b2.block _ (by omega)).trans r1); have e2 : w3.heap[w.heap.size + 1]? = some (.cells #[.int .i64 b] 3 (0, 0)) := (b3.block _ (by omega)).trans r2; refine ⟨S, D, k, [([(a : Int)], [(b : Int)])], h3, s3, hI, ?_, fun b e => ?_, fun q hq => ?_, fun q hq => ?_, hk, Nat.le_refl _, by simp, by rw [hR]; rfl, hlv, hlw⟩
  ·refine ⟨[[.slice (some ⟨w.heap.size, 0, none⟩) 1 1, .slice (some ⟨w.heap.size + 1, 0, none⟩) 1 1]], ⟨rfl, .inr ⟨w.heap.size + 2, 1, _, rfl, by omega, r3, Nat.le_refl _, by unfold maxLen; omega, rfl, rfl⟩⟩, ⟨⟨_, _, rfl, ?_, ?_⟩, trivial⟩⟩
   ·refine ⟨_, _, rfl, Nat.le_refl _, by unfold maxLen; decide, fun i hi => ⟨w.heap.size, 0, rfl, ⟨⟨Nat.le_refl _, f3 _ (Nat.le_refl _) (by omega)⟩, by simp [Value.ownBlock], by omega⟩, by omega, ?_⟩⟩
    obtain rfl : i = 0 := by simp at hi; exact hi
    exact cell_of_row _ _ 0 _ _ _ e1
   ·refine ⟨_, _, rfl, Nat.le_refl _, by unfold maxLen; decide, fun i hi => ⟨w.heap.size + 1, 0, rfl, ⟨⟨by omega, f3 _ (by omega) (by omega)⟩, by simp [Value.ownBlock], by omega⟩, by omega, ?_⟩⟩
    obtain rfl : i = 0 := by simp at hi; exact hi
    exact cell_of_row _ _ 0 _ _ _ e2
  ·obtain rfl : w.heap.size + 2 = b := by simpa [Value.ownBlock] using e
   exact f3 _ (by omega) (by omega)
  ·simp only [List.mem_singleton] at hq; subst hq
   exact ⟨rfl, by simp, by simp, by simp⟩
  ·have : q = (a, b) := by simpa [flatW] using hq
   rw [this]; exact ⟨ha, hb⟩
 have HST := Lib.hid hst; rw [hw3, hw2, hw1] at HST; have HKL := Lib.hid hk; clear hst b1 b2 b3 r1 r2 r3 z1 z2 z3 hw1 hw2 hw3 w1 w2 w3 h hR hlv hlw hk
 go_enter Try.func29, Try.ntmps29
 go_wp2
 go_loopg [8] (20000 - k) (fun f v8 wr => UnRel w0 p rb qb lv L at_ sl R D w f v8 wr)
 case atStart => exact HST.out
 case round =>
  clear HST; obtain ⟨S1, D1, k1, Ws, hat⟩ := hrel; have hkl := hat.kle; have hlen := hat.len; have hfu := hat.fuel; obtain ⟨q, c8, e8⟩ := own_formX hat.wait; rw [List.length_reverse] at e8; subst e8; cases Ws with
  | nil =>
    have b1 : decide ((0 : Int) < ((0 : Nat) : Int)) = false := by simp
    have hr : R = (some true, S1, 20000 - k1) := by rw [hat.eq]; exact uniK_end _ _
    have HR := Lib.hid hr; have HAT := Lib.hid hat; clear hr hat; go_wp2; go_ret2; rw [HR.out]; exact ⟨rfl, D1, by rw [show 20000 - (20000 - k1) = k1 by omega]; exact HAT.out.ex, HAT.out.st⟩
  | cons q0 Ws =>
    obtain ⟨A0, B0⟩ := q0; have hok := hat.ok _ (List.mem_cons_self ..)
    obtain ⟨g, rfl⟩ : ∃ g, q = some ⟨g, 0, none⟩ := by
     rcases hat.wait.form with ⟨-, e⟩ | ⟨g, c', e⟩
     ·have := congrArg List.length e; simp at this
     ·simp only [Value.slice.injEq] at e; exact ⟨g, e.1⟩
    cases A0 with
    | nil => exact absurd rfl hok.some
    | cons x A =>
    cases B0 with
    | nil => exact absurd hok.len (by simp)
    | cons y B =>
    obtain ⟨x, rfl⟩ : ∃ n : Nat, x = n := ⟨x.toNat, by have := hok.left x (List.mem_cons_self ..); omega⟩; obtain ⟨y, rfl⟩ : ∃ n : Nat, y = n := ⟨y.toNat, by have := hok.right y (List.mem_cons_self ..); omega⟩; have hAB : A.length = B.length := by have := hok.len; simpa using this
    simp only [List.length_cons] at hlen hat; obtain ⟨n, hn⟩ : ∃ n : Nat, n = Ws.length := ⟨_, rfl⟩; obtain ⟨m, hm⟩ : ∃ m : Nat, m = A.length := ⟨_, rfl⟩; rw [← hn] at hlen hat; obtain ⟨t1, t2, b1, o1, c1, b2, o2, c2, x0, x1, ⟨u1, u2, u3, u4⟩, ⟨v1, v2, v3, v4⟩, ta, tb⟩ := hat.top hn hm (hm.trans hAB); have HAT := Lib.hid hat; unfold maxLen at t2 u2 v2; have hn0 : (0 : Int) ≤ (n : Int) := by omega
    have hn1 : n ≤ 10000000 := by omega
    have hm0 : (0 : Int) < (m : Int) + 1 := by omega
    have e1 : decide ((0 : Int) < (n : Int) + 1) = true := by simp
    have HN := Lib.hid (And.intro hn hm); have HAB := Lib.hid hAB; clear hn hm hat hok hlen ta tb hAB hfu; rw [List.length_cons, ← HN.out.1]; go_wp2; refine wp_region_rest (by kernel_rfl) ?_; have hdr : Below wr.heap.size wr wr.drew := (Below.refl _ _).drew; have h2 := HAT.out.below hdr; have H2 := Lib.hid h2; have x0' : wr.drew.cell? ⟨g, n * 2, none⟩ = _ := x0; have x1' : wr.drew.cell? ⟨g, n * 2 + 1, none⟩ = _ := x1; have u4' : wr.drew.cell? ⟨b1, o1, none⟩ = _ := u4; have v4' : wr.drew.cell? ⟨b2, o2, none⟩ = _ := v4; clear hdr h2 x0 x1 u4 v4; generalize wr.drew = V0 at *; refine rest_chainP (fun u => u = V0) 0 13 (.soft 0 (.soft 1 (.soft 2 (.soft 3 (.soft 4 (.soft 5 (.soft 6 (.soft 7 (.soft 8 (.soft 9 (.soft 10 (.soft 11 (.soft 12 .nil))))))))))))) (.soft _ (.soft _ (.soft _ (.soft _ (.soft _ (.soft _ (.soft _ (.soft _ (.soft _ (.soft _ (.soft _ (.soft _ (.soft _ .nil))))))))))))) ⟨rfl, ⟨rfl, ⟨rfl, ⟨rfl, ⟨rfl, ⟨rfl, ⟨rfl, ⟨rfl, ⟨rfl, ⟨rfl, ⟨rfl, ⟨rfl, ⟨rfl, trivial⟩⟩⟩⟩⟩⟩⟩⟩⟩⟩⟩⟩⟩ (by kernel_rfl) (by kernel_rfl) (by kernel_rfl) (by kernel_rfl) (.inr (by kernel_rfl)) rfl ?_; refine cS (a1 := ?ma1) ?mh1 ?mr1
    case mh1 =>
     intro u hu E hE; subst hu; go_wp2; rfl
    refine chainP_nck _ _ rfl rfl rfl ?_; simp only [Act.put, zA, zB, zC, zD, zE, zF, zG, Nat.reduceAdd]; refine cS (a1 := ?ma2) ?mh2 ?mr2
    case mh2 =>
     intro u hu E hE; subst hu; go_wp2; rfl
    refine cS (a1 := ?ma3) ?mh3 ?mr3
    case mh3 =>
     intro u hu E hE; subst hu; go_wp2; rfl
    refine cS (a1 := ?ma4) ?mh4 ?mr4
    case mh4 =>
     intro u hu E hE; subst hu; go_wp2; rfl
    refine cS (a1 := ?ma5) ?mh5 ?mr5
    case mh5 =>
     intro u hu E hE; subst hu; go_wp2; rfl
    refine cS (a1 := ?ma6) ?mh6 ?mr6
    case mh6 =>
     intro u hu E hE; subst hu; go_wp2; rfl
    refine chainP_nck _ _ rfl rfl rfl ?_; simp only [Act.put, zA, zB, zC, zD, zE, zF, zG, Nat.reduceAdd]; refine cS (a1 := ?ma7) ?mh7 ?mr7
    case mh7 =>
     intro u hu E hE; subst hu; go_wp2; rfl
    refine cS (a1 := ?ma8) ?mh8 ?mr8
    case mh8 =>
     intro u hu E hE; subst hu; go_wp2; rfl
    refine cS (a1 := ?ma9) ?mh9 ?mr9
    case mh9 =>
     intro u hu E hE; subst hu; go_wp2; rfl
    refine cS (a1 := ?ma10) ?mh10 ?mr10
    case mh10 =>
     intro u hu E hE; subst hu; go_wp2; rfl
    refine cS (a1 := ?ma11) ?mh11 ?mr11
    case mh11 =>
     intro u hu E hE; subst hu; go_wp2; rfl
    refine chainP_nil ?_; refine rest_lineL 13 14 [_] rfl (by kernel_rfl) (by decide) (by decide) (by kernel_rfl) ?_; go_wp2; refine then_rest (rest_end (by decide) ?_)
    go_upto_region 5 with fail
    clear x0' x1' u4' v4' u1 u2 u3 v1 v2 v3 t1 t2; refine wp_region_rest (by kernel_rfl) ?_; have hdr : Below V0.heap.size V0 V0.drew := (Below.refl _ _).drew; have h3 := H2.out.below hdr; obtain ⟨t1, t2, b1, o1, c1, b2, o2, c2, x0, x1, ⟨u1, u2, u3, u4⟩, ⟨v1, v2, v3, v4⟩, ta, tb⟩ := h3.top HN.out.1 HN.out.2 (HN.out.2.trans HAB.out); have hgl := (h3.wait.low g rfl).2; have hth := h3.wait.thaw (by simp [HN.out.1]) (n * 2); have H3 := Lib.hid h3; have HTA := Lib.hid (And.intro ta tb); have HTH := Lib.hid hth; clear hdr h3 ta tb u4 v4 u3 v3 hth H2; unfold maxLen at t2 u2 v2; have hr1 := fun w => slice_rest (b := b1) (o := o1) (m := m) (c := c1) u1 w
    have hr2 := fun w => slice_rest (b := b2) (o := o2) (m := m) (c := c2) v1 w
    generalize V0.drew = W0 at *; refine rest_opsM 0 15 96 [(14, g)] (fun _ _ => false) [_, _, _, _, _, _, _, _, _, _, _, _, _, _, _] (pk 0 [isV ?a12_0, isV ?a12_1, isV ?a12_2, isV ?a12_3, isV ?a12_4, isV ?a12_5, isV (.slice (some ⟨b1, tailO c1 o1, none⟩) m (c1 - 1)), isV ?a12_7, isV ?a12_8, isV ?a12_9, isV ?a12_10, isV (.slice (some ⟨b2, tailO c2 o2, none⟩) m (c2 - 1)), isV ?a12_12, isV ?a12_13, fun v u => SetE W0 g (n * 2) (.slice (some ⟨b1, tailO c1 o1, none⟩) m (c1 - 1)) u]) (fun _ _ => none) rfl (by kernel_rfl) (by kernel_rfl) rfl (.inr (by kernel_rfl)) ?hS12 ?hop12 ?_
    case hop12 =>
     refine ⟨?_, ?_⟩
     ·intro v u hu hs Q' hQ
      simp only [putX, dstOf, cond_false]; clear hs; go_wp2; exact ⟨rfl, Keeps.refl _ _, by (show _ = _; rfl), fun _ h => nomatch h⟩
     refine ⟨?_, ?_⟩
     ·intro v u hu hs Q' hQ
      simp only [putX, dstOf, cond_false]; clear hs; go_wp2; exact ⟨rfl, Keeps.refl _ _, by (show _ = _; rfl), fun _ h => nomatch h⟩
     refine ⟨?_, ?_⟩
     ·intro v u hu hs Q' hQ
      simp only [putX, dstOf, cond_false]; clear hs; go_wp2; exact ⟨rfl, Keeps.refl _ _, by (show _ = _; rfl), fun _ h => nomatch h⟩
     refine ⟨?_, ?_⟩
     ·intro v u hu hs Q' hQ
      simp only [putX, dstOf, cond_false]; have s_2 : v 2 = _ := hs 2 (by kernel_rfl) (by decide) (by decide); clear hs; go_wp2; exact ⟨rfl, Keeps.refl _ _, by (show _ = _; rfl), fun _ h => nomatch h⟩
     refine ⟨?_, ?_⟩
     ·intro v u hu hs Q' hQ
      simp only [putX, dstOf, cond_false]; have s_3 : v 3 = _ := hs 3 (by kernel_rfl) (by decide) (by decide); clear hs; go_wp2; exact ⟨rfl, Keeps.refl _ _, by (show _ = _; rfl), fun _ h => nomatch h⟩
     refine ⟨?_, ?_⟩
     ·intro v u hu hs Q' hQ
      simp only [putX, dstOf, cond_false]; have s_4 : v 4 = _ := hs 4 (by kernel_rfl) (by decide) (by decide); have HZ := hu.size; have KU : ∀ b, b < W0.heap.size → b ∉ ([] : List Nat) → u.heap[b]? = W0.heap[b]? := fun b hlt hn => hu.block b hlt fun h => hn h
      have y1 := (World.cell?_of_block (w := W0) (w' := u) (a := ⟨g, n * 2, none⟩) (KU g hgl (by simp))).trans x0; have y2 := (World.cell?_of_block (w := W0) (w' := u) (a := ⟨g, n * 2 + 1, none⟩) (KU g hgl (by simp))).trans x1; clear hs; go_wp2; exact ⟨rfl, Keeps.refl _ _, by (show _ = _; rfl), fun _ h => nomatch h⟩
     refine ⟨?_, ?_⟩
     ·intro v u hu hs Q' hQ
      simp only [putX, dstOf, cond_false]; have s_5 : v 5 = _ := hs 5 (by kernel_rfl) (by decide) (by decide); clear hs; go_wp2; exact ⟨rfl, Keeps.refl _ _, by (show _ = _; rfl), fun _ h => nomatch h⟩
     refine ⟨?_, ?_⟩
     ·intro v u hu hs Q' hQ
      simp only [putX, dstOf, cond_false]; clear hs; go_wp2; exact ⟨rfl, Keeps.refl _ _, by (show _ = _; rfl), fun _ h => nomatch h⟩
     refine ⟨?_, ?_⟩
     ·intro v u hu hs Q' hQ
      simp only [putX, dstOf, cond_false]; have s_7 : v 7 = _ := hs 7 (by kernel_rfl) (by decide) (by decide); clear hs; go_wp2; exact ⟨rfl, Keeps.refl _ _, by (show _ = _; rfl), fun _ h => nomatch h⟩
     refine ⟨?_, ?_⟩
     ·intro v u hu hs Q' hQ
      simp only [putX, dstOf, cond_false]; have s_8 : v 8 = _ := hs 8 (by kernel_rfl) (by decide) (by decide); clear hs; go_wp2; exact ⟨rfl, Keeps.refl _ _, by (show _ = _; rfl), fun _ h => nomatch h⟩
     refine ⟨?_, ?_⟩
     ·intro v u hu hs Q' hQ
      simp only [putX, dstOf, cond_false]; have s_9 : v 9 = _ := hs 9 (by kernel_rfl) (by decide) (by decide); have HZ := hu.size; have KU : ∀ b, b < W0.heap.size → b ∉ ([] : List Nat) → u.heap[b]? = W0.heap[b]? := fun b hlt hn => hu.block b hlt fun h => hn h
      have y1 := (World.cell?_of_block (w := W0) (w' := u) (a := ⟨g, n * 2, none⟩) (KU g hgl (by simp))).trans x0; have y2 := (World.cell?_of_block (w := W0) (w' := u) (a := ⟨g, n * 2 + 1, none⟩) (KU g hgl (by simp))).trans x1; clear hs; go_wp2; exact ⟨rfl, Keeps.refl _ _, by (show _ = _; rfl), fun _ h => nomatch h⟩
     refine ⟨?_, ?_⟩
     ·intro v u hu hs Q' hQ
      simp only [putX, dstOf, cond_false]; have s_10 : v 10 = _ := hs 10 (by kernel_rfl) (by decide) (by decide); clear hs; go_wp2; exact ⟨rfl, Keeps.refl _ _, by (show _ = _; rfl), fun _ h => nomatch h⟩
     refine ⟨?_, ?_⟩
     ·intro v u hu hs Q' hQ
      simp only [putX, dstOf, cond_false]; have s_0 : v 0 = _ := hs 0 (by kernel_rfl) (by decide) (by decide); have s_2 : v 2 = _ := hs 2 (by kernel_rfl) (by decide) (by decide); have s_3 : v 3 = _ := hs 3 (by kernel_rfl) (by decide) (by decide); have s_4 : v 4 = _ := hs 4 (by kernel_rfl) (by decide) (by decide); have s_5 : v 5 = _ := hs 5 (by kernel_rfl) (by decide) (by decide); have s_6 : v 6 = .slice (some ⟨b1, tailO c1 o1, none⟩) m (c1 - 1) := hs 6 (by kernel_rfl) (by decide) (by decide); have s_10 : v 10 = _ := hs 10 (by kernel_rfl) (by decide) (by decide); clear hs; go_wp2; exact ⟨rfl, Keeps.refl _ _, by (show _ = _; rfl), fun _ h => nomatch h⟩
     refine ⟨?_, ?_⟩
     ·intro v u hu hs Q' hQ
      simp only [putX, dstOf, cond_false]; have s_0 : v 0 = _ := hs 0 (by kernel_rfl) (by decide) (by decide); have s_2 : v 2 = _ := hs 2 (by kernel_rfl) (by decide) (by decide); have s_3 : v 3 = _ := hs 3 (by kernel_rfl) (by decide) (by decide); have s_4 : v 4 = _ := hs 4 (by kernel_rfl) (by decide) (by decide); have s_5 : v 5 = _ := hs 5 (by kernel_rfl) (by decide) (by decide); have s_6 : v 6 = .slice (some ⟨b1, tailO c1 o1, none⟩) m (c1 - 1) := hs 6 (by kernel_rfl) (by decide) (by decide); have s_10 : v 10 = _ := hs 10 (by kernel_rfl) (by decide) (by decide); have s_12 : v 12 = _ := hs 12 (by kernel_rfl) (by decide) (by decide); clear hs; go_wp2; exact ⟨rfl, Keeps.refl _ _, by (show _ = _; rfl), fun _ h => nomatch h⟩
     refine ⟨?_, ?_⟩
     ·intro v u hu hs Q' hQ
      simp only [putX, dstOf, cond_false]; have s_0 : v 0 = _ := hs 0 (by kernel_rfl) (by decide) (by decide); have s_2 : v 2 = _ := hs 2 (by kernel_rfl) (by decide) (by decide); have s_3 : v 3 = _ := hs 3 (by kernel_rfl) (by decide) (by decide); have s_4 : v 4 = _ := hs 4 (by kernel_rfl) (by decide) (by decide); have s_5 : v 5 = _ := hs 5 (by kernel_rfl) (by decide) (by decide); have s_6 : v 6 = .slice (some ⟨b1, tailO c1 o1, none⟩) m (c1 - 1) := hs 6 (by kernel_rfl) (by decide) (by decide); have s_10 : v 10 = _ := hs 10 (by kernel_rfl) (by decide) (by decide); have s_13 : v 13 = _ := hs 13 (by kernel_rfl) (by decide) (by decide); have HZ := hu.size; have KU : ∀ b, b < W0.heap.size → b ∉ ([] : List Nat) → u.heap[b]? = W0.heap[b]? := fun b hlt hn => hu.block b hlt fun h => hn h
      have y1 := (World.cell?_of_block (w := W0) (w' := u) (a := ⟨g, n * 2, none⟩) (KU g hgl (by simp))).trans x0; have y2 := (World.cell?_of_block (w := W0) (w' := u) (a := ⟨g, n * 2 + 1, none⟩) (KU g hgl (by simp))).trans x1; clear hs
      (have f1 := (frozen_eqE (KU g hgl (by simp)) (n * 2)).trans HTH.out; simp only [s_6, s_13]; go_wp2)
      exact ⟨rfl, keepsE _ _ _ _, ⟨heap_setE (KU g hgl (by simp)) _ _, by simp [World.setCell]; have := hu.size; omega⟩, fun _ h => nomatch h⟩
     exact trivial
    case hS12 =>
     intro j v u u' hkj hjn h hz hb
     match j, hkj, hjn, h, hb with
     | 0, _, _, h, hb => exact h
     | 1, _, _, h, hb => exact h
     | 2, _, _, h, hb => exact h
     | 3, _, _, h, hb => exact h
     | 4, _, _, h, hb => exact h
     | 5, _, _, h, hb => exact h
     | 6, _, _, h, hb => exact h
     | 7, _, _, h, hb => exact h
     | 8, _, _, h, hb => exact h
     | 9, _, _, h, hb => exact h
     | 10, _, _, h, hb => exact h
     | 11, _, _, h, hb => exact h
     | 12, _, _, h, hb => exact h
     | 13, _, _, h, hb => exact h
     | 14, _, _, h, hb => exact (let ⟨h1, h3⟩ := h; ⟨(hb.block _ h3 (by rintro ⟨q, hq, hm⟩; simp at hm; omega)).trans h1, Nat.lt_of_lt_of_le h3 hb.size⟩)
     | q + 15, _, hq, _, _ => exact absurd hq (by omega)
    intro v u hu hs hap; have s_0 : v 0 = _ := hs 0 (by decide) (by decide); have s_1 : v 1 = _ := hs 1 (by decide) (by decide); have s_2 : v 2 = _ := hs 2 (by decide) (by decide); have s_3 : v 3 = _ := hs 3 (by decide) (by decide); have s_4 : v 4 = _ := hs 4 (by decide) (by decide); have s_5 : v 5 = _ := hs 5 (by decide) (by decide); have s_6 : v 6 = .slice (some ⟨b1, tailO c1 o1, none⟩) m (c1 - 1) := hs 6 (by decide) (by decide); have s_7 : v 7 = _ := hs 7 (by decide) (by decide); have s_8 : v 8 = _ := hs 8 (by decide) (by decide); have s_9 : v 9 = _ := hs 9 (by decide) (by decide); have s_10 : v 10 = _ := hs 10 (by decide) (by decide); have s_11 : v 11 = .slice (some ⟨b2, tailO c2 o2, none⟩) m (c2 - 1) := hs 11 (by decide) (by decide); have s_12 : v 12 = _ := hs 12 (by decide) (by decide); have s_13 : v 13 = _ := hs 13 (by decide) (by decide); have s_14 : SetE W0 g (n * 2) (.slice (some ⟨b1, tailO c1 o1, none⟩) m (c1 - 1)) u := hs 14 (by decide) (by decide); simp only [putAll, dstOf]; have hset : SetE W0 g (n * 2) (.slice (some ⟨b1, tailO c1 o1, none⟩) m (c1 - 1)) u := s_14; have hkeep : Keeps W0 u (fun b => b = g) := ⟨hu.os, hu.tape, hu.output, hu.size, fun b hb hne => hu.block b hb (by rintro ⟨q, hm⟩; simp at hm; exact hne hm.2)⟩; obtain ⟨⟨z, hz⟩, hf, hmid⟩ := un_stored H3.out HN.out.1 hset hkeep HTA.out.1 HTA.out.2; have HMID := Lib.hid hmid; clear hs hap hset hkeep hu s_14 hmid H3 HTA HTH x0 x1 u1 u2 v1 v2 hr1 hr2 hgl; refine rest_lineL 15 18 [_, _, _] rfl (by kernel_rfl) (by decide) (by decide) (by kernel_rfl) ?_; simp only [s_0, s_1, s_2, s_3, s_4, s_5, s_6, s_7, s_8, s_9, s_10, s_11, s_12, s_13, Act.put, List.getElem?_toArray, List.getElem?_cons_succ, List.getElem?_cons_zero, Option.bind_some, List.setIfInBounds_toArray, List.set_cons_succ, List.set_cons_zero, Nat.reduceAdd]; clear s_0 s_1 s_2 s_3 s_4 s_5 s_6 s_7 s_8 s_9 s_10 s_11 s_12 s_13; go_wp2; refine then_rest (rest_end (by decide) ?_); clear hf hz; generalize u.setCell ⟨g, n * 2 + 1, none⟩ (.slice (some ⟨b2, tailO c2 o2, none⟩) m (c2 - 1)) = W2 at *; have hnr : n = Ws.reverse.length := by rw [List.length_reverse]; exact HN.out.1
    obtain ⟨qf, cf, x0⟩ := HMID.out.first hnr; rw [← HN.out.2] at x0; have hno := oneP_some S1 false
    by_cases hm0' : m = 0
    ·subst hm0'
     obtain rfl : A = [] := List.eq_nil_of_length_eq_zero HN.out.2.symm; have hm2 := HMID.out.cut hnr; have e2 : ((((0 : Nat) : Int)) == 0) = true := rfl; have hflat : flatW (((x : Int) :: [], (y : Int) :: B) :: Ws) = (x, y) :: flatW Ws := by rw [flat_top, flat_nil]
     have hwok : ∀ q ∈ Ws, WOk q := fun q hq => HAT.out.ok q (List.mem_cons_of_mem _ hq)
     have HM := Lib.hid hm2; have HF := Lib.hid (And.intro hflat (And.intro hwok (show n = Ws.length ∧ Ws.length ≤ Ws.length + 1 from ⟨HN.out.1, Nat.le_succ _⟩))); clear hm2 hflat hwok hnr HMID; have t3 : (n : Int) ≤ (c8 : Int) := by omega
     go_upto_region 8 with fail
     clear x0 e2 t3; obtain ⟨Wr, hWr⟩ : ∃ Wr, Wr = Ws := ⟨_, rfl⟩; obtain ⟨nr, hnr⟩ : ∃ nr, nr = n := ⟨_, rfl⟩; rw [← hWr] at HM; rw [← hnr] at HM ⊢; have HF2 : Hid (flatW (((x : Int) :: [], (y : Int) :: B) :: Ws) = (x, y) :: flatW Wr ∧ (∀ q ∈ Wr, WOk q) ∧ nr = Wr.length ∧ Wr.length ≤ Ws.length + 1) := by rw [hWr, hnr]; exact HF
     clear hWr hnr HF; obtain ⟨y0, y1, y2, y3, y11⟩ := row12 HM.out.ex.row
     by_cases hk20 : k1 = 20000
     ·subst hk20
      have hr : R = (none, S1, 0) := by
       rw [HAT.out.eq, HF2.out.1]; exact uniK_zero false S1 _ _
      have HR := Lib.hid hr; clear hr; go_wp2; go_ret2; rw [HR.out]; exact ⟨rfl, D1, HM.out.ex, HM.out.st⟩
     obtain ⟨j, hj⟩ : ∃ j, 20000 - k1 = j + 1 := ⟨20000 - k1 - 1, by omega⟩
     have hr : R = if (oneP S1 false j x y).1.1 = some true then uniK false j (oneP S1 false j x y).1.2.1 ((oneP S1 false j x y).2 ++ flatW Wr) else (oneP S1 false j x y).1 := by
      rw [HAT.out.eq, HF2.out.1, hj, uniK_cons, oneP_k]
     have HR := Lib.hid hr; have HJ := Lib.hid hj; have b2 : ((k1 : Int) == 20000) = false := by simp; omega
     obtain ⟨h5, s5⟩ := HM.out.ex.setWork (k1 + 1); have hfz : W2.frozen? ⟨rb, 11, none⟩ = false := by simp [World.frozen?, HM.out.ex.row]
     have hm5 := HM.out.step h5 s5; rw [show ((k1 + 1 : Nat) : Int) = (k1 : Int) + 1 by omega] at hm5; have HM5 := Lib.hid hm5; clear hr hj h5 s5 hm5 HM hk20
     go_upto_region 11 with fail
     clear y0 y1 y2 y3 y11 hfz; generalize W2.setCell ⟨rb, 11, none⟩ (.int .i64 ((k1 : Int) + 1)) = W3 at *; obtain ⟨hx, hy⟩ := HAT.out.inn (x, y) (by rw [HF2.out.1]; exact List.mem_cons_self ..); have HMORE := Lib.hid (oneP_more HAT.out.inv (sf := false) (k := j) hx hy); have HEXT := Lib.hid (oneP_ext HAT.out.inv (sf := false) (k := j) hx hy); have HNO := Lib.hid (oneP_some S1 false j x y rfl); have HK := Lib.hid (oneP_k S1 j x y); clear hno
     go_wp2_with fail
     refine (ex_pair HM5.out.ex HAT.out.inv j x y hx hy).mono ?_; generalize oneP S1 false j x y = r2 at HR HMORE HEXT HNO HK ⊢; obtain ⟨⟨o, S2, k2⟩, more⟩ := r2; dsimp only at HR HMORE HEXT HNO HK; rintro e6 w6 ⟨va, vb, A2, B2, rfl, hl2, hz2, hA2, hB2, D6, h6, s6, ia, ib⟩; dsimp only at h6 hz2; obtain ⟨qa, ca, rfl⟩ := ia.form; obtain ⟨qz, cz, rfl⟩ := ib.form; have hm6 := HM5.out.step h6 s6; have hb7 := below_new w6 (.cells #[.slice qa A2.length ca, .slice qz B2.length cz] 122 (0, 0)); have hr7 := heap_alloc_new w6 (.cells #[.slice qa A2.length ca, .slice qz B2.length cz] 122 (0, 0)); obtain ⟨-, s7, f7⟩ := hm6.ex.below hb7; have HM7 := Lib.hid (hm6.below hb7); have HR7 := Lib.hid hr7; have HG7 := Lib.hid (And.intro (f7 w6.heap.size (Nat.le_refl _) (by simp)) (And.intro HM5.out.st.size (HM5.out.wait.low g rfl).2)); have HIA := Lib.hid (And.intro (ia.estep s7) (ib.estep s7)); have HL2 := Lib.hid (And.intro hl2 (And.intro hz2 (And.intro hA2 hB2))); have hnw : ∀ b, W3.heap.size ≤ b → b ≠ g := fun b hb e => by have := HG7.out.2.2; omega
     have HNW := Lib.hid hnw; clear hl2 hz2 hA2 hB2 h6 s6 ia ib hm6 hb7 hr7 s7 f7 HM5 hnw; cases o with
     | none => exact absurd rfl HNO.out
     | some o =>
     cases o with
     | false =>
       have hr := HR.out; rw [if_neg (by simp)] at hr; have HR3 := Lib.hid hr; clear hr HR; simp only [hasB]; go_wp2; go_ret2; rw [HR3.out]; have e := HK.out; subst e; exact ⟨rfl, D6, by rw [show 20000 - k2 = k1 + 1 by have := HJ.out; omega]; exact HM7.out.ex, HM7.out.st⟩
     | true =>
       have hr := HR.out; rw [if_pos rfl] at hr; have e := HK.out; subst e; have HR3 := Lib.hid hr; clear hr HR HK; simp only [hasB]
       go_upto_region 14 with fail
       generalize w6.alloc (.cells #[.slice qa A2.length ca, .slice qz B2.length cz] 122 (0, 0)) = W7 at *; generalize w6.heap.size = g7 at *; have p0 : W7.cell? ⟨g7, 0, none⟩ = some (.slice qa A2.length ca) := cell_of_row _ _ 0 _ _ _ HR7.out; have p1 : W7.cell? ⟨g7, 1, none⟩ = some (.slice qz B2.length cz) := cell_of_row _ _ 1 _ _ _ HR7.out; have hlen := HAT.out.len; have hext := HEXT.out
       have hinn : InL S2 (flatW Wr) := fun q hq => by
        have h0 := HAT.out.inn q (by rw [HF2.out.1]; exact List.mem_cons_of_mem _ hq); have := hext.len; omega
       have hmr : ∀ q ∈ more, q.1 < S2.cells.length ∧ q.2 < S2.cells.length := fun q hq => by
        have h0 := HMORE.out q hq; have := hext.len; omega
       obtain ⟨f, hf⟩ : ∃ f, gk = f + 1 := ⟨gk - 1, by have := HAT.out.fuel; have := HJ.out; omega⟩; subst hf; have hfu := HAT.out.fuel; have HPL := Lib.hid (And.intro hinn (And.intro hmr (And.intro hext.inv (And.intro (show k1 + 1 ≤ 20000 by have := HJ.out; omega) (show 20000 - (k1 + 1) = k2 ∧ 20000 - (k1 + 1) ≤ f by have := HJ.out; omega))))); clear hext hinn hmr hfu
       by_cases ha2 : A2 = []
       ·subst ha2
        have hrel : UnRel w0 p rb qb lv L at_ sl R D w f (.slice (some ⟨g, 0, none⟩) nr c8) W7 := by
         refine ⟨S2, D6, k1 + 1, Wr, HM7.out.ex, HM7.out.st, HPL.out.2.2.1, HM7.out.wait, HM7.out.own, HF2.out.2.1, HPL.out.1, HPL.out.2.2.2.1, HPL.out.2.2.2.2.2, ?_, ?_, HAT.out.lvF, HAT.out.low⟩
         ·have := HF2.out.2.2.2; simp only [List.length_cons] at hlen; omega
         ·rw [HR3.out, HPL.out.2.2.2.2.1]
          congr 1
          have := HL2.out.2.1; rw [← this]
          simp
        have HREL := Lib.hid hrel; have e3 : decide ((0 : Int) < ((0 : Nat) : Int)) = false := rfl; clear hrel hlen p1 HM7 HR7 HG7 HIA; simp only [List.length_nil] at p0; go_wp2
        go_roundg f
        case measure => omega
        case rel => exact HREL.out
       ·obtain ⟨la, hla⟩ : ∃ la, la + 1 = A2.length := ⟨A2.length - 1, by have : 0 < A2.length := List.length_pos_iff.2 ha2; omega⟩
        have e3 : decide ((0 : Int) < (la : Int) + 1) = true := by simp
        obtain ⟨lb, hlb⟩ : ∃ lb, lb = B2.length := ⟨_, rfl⟩; rw [← hla] at p0 HR7 HIA; rw [← hlb] at p1 HR7 HIA; have HLA := Lib.hid (And.intro hla hlb); have HNE := Lib.hid ha2; clear hla hlb ha2
        go_upto_region 15 with fail
        have hb8 := below_new W7 (.cells #[.slice qa (la + 1) ca, .slice qz lb cz] 122 (0, 0)); have hr8 := heap_alloc_new W7 (.cells #[.slice qa (la + 1) ca, .slice qz lb cz] 122 (0, 0)); obtain ⟨-, s8, -⟩ := HM7.out.ex.below hb8; have HM8 := Lib.hid (HM7.out.below hb8); have HR8 := Lib.hid hr8; have HIA8 := Lib.hid (And.intro (HIA.out.1.estep s8) (HIA.out.2.estep s8)); have hwl : Wr.reverse.length = nr := by rw [List.length_reverse]; exact HF2.out.2.2.1.symm
        have HWL := Lib.hid (And.intro hwl (show nr ≤ 20001 by have := HF2.out.2.2.1; have := HF2.out.2.2.2; simp only [List.length_cons] at hlen; omega)); have HSZ := Lib.hid (show w.heap.size ≤ (W7.alloc (.cells #[.slice qa (la + 1) ca, .slice qz lb cz] 122 (0, 0))).heap.size from Nat.le_trans HM7.out.st.size hb8.size); clear hb8 hr8 s8 HM7 HR7 HIA hwl hlen
        go_wp2_with (first
         | (with_reducible show wpList _ _ _ (⟨some 95, _, _, _, _, _⟩ :: _) _ _
            refine wpList_put (K := pqKind) rfl (.tmp 92) (.tmp 94) 123 rfl Try.underlying123 info_pairs rfl w.heap.size (fun b => w.heap.size ≤ b ∧ EOut rb qb D6 (W7.alloc (.cells #[.slice qa (la + 1) ca, .slice qz lb cz] 122 (0, 0))) b) (.slice (some ⟨g, 0, none⟩) nr c8) Wr.reverse [.slice qa (la + 1) ca, .slice qz lb cz] (A2, B2) W7.heap.size 1 _ _ rfl HM8.out.wait rfl HR8.out ?_ (by rw [HWL.out.1]; unfold maxLen; have := HWL.out.2; omega) (by rw [HWL.out.1]; have := HWL.out.2; omega) HSZ.out ?_
            ·exact ⟨_, _, rfl, HIA8.out.1.move (fun b hb _ => ⟨⟨Nat.le_trans HG7.out.2.1 hb.1, hb.2⟩, fun e => HNW.out b hb.1 (by simpa [Value.ownBlock] using e.symm)⟩) (fun _ _ _ => rfl), HIA8.out.2.move (fun b hb _ => ⟨⟨Nat.le_trans HG7.out.2.1 hb.1, hb.2⟩, fun e => HNW.out b hb.1 (by simpa [Value.ownBlock] using e.symm)⟩) (fun _ _ _ => rfl)⟩
            intro v9 w9 hown9 hb9 hg9 hv9
            skip))
        have hm9 := HM8.out.put rfl hown9 hg9 hv9 HAT.out.lvF HAT.out.low
        have hrel : UnRel w0 p rb qb lv L at_ sl R D w f v9 w9 := by
         refine ⟨S2, D6, k1 + 1, (A2, B2) :: Wr, hm9.ex, hm9.st, HPL.out.2.2.1, by rw [List.reverse_cons]; exact hm9.wait, hm9.own, fun q hq => ?_, fun q hq => ?_, HPL.out.2.2.2.1, HPL.out.2.2.2.2.2, ?_, ?_, HAT.out.lvF, HAT.out.low⟩
         ·rcases List.mem_cons.1 hq with rfl | hq
          ·exact ⟨HL2.out.1, HNE.out, HL2.out.2.2.1, HL2.out.2.2.2⟩
          ·exact HF2.out.2.1 q hq
         ·rw [flat_cons] at hq
          rcases List.mem_append.1 hq with hq | hq
          ·exact HPL.out.2.1 q (by rw [← HL2.out.2.1]; exact hq)
          ·exact HPL.out.1 q hq
         ·have := HAT.out.len; have := HF2.out.2.2.2; simp only [List.length_cons] at *; omega
         ·rw [HR3.out, HPL.out.2.2.2.2.1, flat_cons, ← HL2.out.2.1]
        have HREL := Lib.hid hrel; clear hrel hown9 hb9 hg9 hv9 hm9 p0 p1; go_wp2
        go_roundg f
        case measure => omega
        case rel => exact HREL.out
    ·have e2 : ((m : Int) == 0) = false := by simp; omega
     have hne : A ≠ [] := fun e => hm0' (by rw [HN.out.2, e]; rfl)
     have hwok : ∀ q ∈ (A, B) :: Ws, WOk q := fun q hq => by
      rcases List.mem_cons.1 hq with rfl | hq
      ·have h0 := HAT.out.ok _ (List.mem_cons_self ..)
       exact ⟨HAB.out, hne, fun a ha => h0.left a (List.mem_cons_of_mem _ ha), fun b hb => h0.right b (List.mem_cons_of_mem _ hb)⟩
      ·exact HAT.out.ok q (List.mem_cons_of_mem _ hq)
     obtain ⟨Wr, hWr⟩ : ∃ Wr, Wr = (A, B) :: Ws := ⟨_, rfl⟩; have hm2 := HMID.out; rw [← List.reverse_cons, ← hWr] at hm2; have HM := Lib.hid hm2; have HF2 : Hid (flatW (((x : Int) :: A, (y : Int) :: B) :: Ws) = (x, y) :: flatW Wr ∧ (∀ q ∈ Wr, WOk q) ∧ n + 1 = Wr.length ∧ Wr.length ≤ Ws.length + 1) := Lib.hid (by rw [hWr]; exact ⟨flat_top, hwok, by rw [HN.out.1]; rfl, Nat.le_refl _⟩); clear hm2 hwok hnr HMID hne hm0' hWr
     go_upto_region 8 with fail
     clear x0 e2; obtain ⟨nr, hnr⟩ : ∃ nr, nr = n + 1 := ⟨_, rfl⟩; rw [← hnr] at HF2; rw [show ((n : Int) + 1) = (nr : Int) by omega]; rw [← hnr] at HM ⊢; clear hnr; obtain ⟨y0, y1, y2, y3, y11⟩ := row12 HM.out.ex.row
     by_cases hk20 : k1 = 20000
     ·subst hk20
      have hr : R = (none, S1, 0) := by
       rw [HAT.out.eq, HF2.out.1]; exact uniK_zero false S1 _ _
      have HR := Lib.hid hr; clear hr; go_wp2; go_ret2; rw [HR.out]; exact ⟨rfl, D1, HM.out.ex, HM.out.st⟩
     obtain ⟨j, hj⟩ : ∃ j, 20000 - k1 = j + 1 := ⟨20000 - k1 - 1, by omega⟩
     have hr : R = if (oneP S1 false j x y).1.1 = some true then uniK false j (oneP S1 false j x y).1.2.1 ((oneP S1 false j x y).2 ++ flatW Wr) else (oneP S1 false j x y).1 := by
      rw [HAT.out.eq, HF2.out.1, hj, uniK_cons, oneP_k]
     have HR := Lib.hid hr; have HJ := Lib.hid hj; have b2 : ((k1 : Int) == 20000) = false := by simp; omega
     obtain ⟨h5, s5⟩ := HM.out.ex.setWork (k1 + 1); have hfz : W2.frozen? ⟨rb, 11, none⟩ = false := by simp [World.frozen?, HM.out.ex.row]
     have hm5 := HM.out.step h5 s5; rw [show ((k1 + 1 : Nat) : Int) = (k1 : Int) + 1 by omega] at hm5; have HM5 := Lib.hid hm5; clear hr hj h5 s5 hm5 HM hk20
     go_upto_region 11 with fail
     clear y0 y1 y2 y3 y11 hfz; generalize W2.setCell ⟨rb, 11, none⟩ (.int .i64 ((k1 : Int) + 1)) = W3 at *; obtain ⟨hx, hy⟩ := HAT.out.inn (x, y) (by rw [HF2.out.1]; exact List.mem_cons_self ..); have HMORE := Lib.hid (oneP_more HAT.out.inv (sf := false) (k := j) hx hy); have HEXT := Lib.hid (oneP_ext HAT.out.inv (sf := false) (k := j) hx hy); have HNO := Lib.hid (oneP_some S1 false j x y rfl); have HK := Lib.hid (oneP_k S1 j x y); clear hno
     go_wp2_with fail
     refine (ex_pair HM5.out.ex HAT.out.inv j x y hx hy).mono ?_; generalize oneP S1 false j x y = r2 at HR HMORE HEXT HNO HK ⊢; obtain ⟨⟨o, S2, k2⟩, more⟩ := r2; dsimp only at HR HMORE HEXT HNO HK; rintro e6 w6 ⟨va, vb, A2, B2, rfl, hl2, hz2, hA2, hB2, D6, h6, s6, ia, ib⟩; dsimp only at h6 hz2; obtain ⟨qa, ca, rfl⟩ := ia.form; obtain ⟨qz, cz, rfl⟩ := ib.form; have hm6 := HM5.out.step h6 s6; have hb7 := below_new w6 (.cells #[.slice qa A2.length ca, .slice qz B2.length cz] 122 (0, 0)); have hr7 := heap_alloc_new w6 (.cells #[.slice qa A2.length ca, .slice qz B2.length cz] 122 (0, 0)); obtain ⟨-, s7, f7⟩ := hm6.ex.below hb7; have HM7 := Lib.hid (hm6.below hb7); have HR7 := Lib.hid hr7; have HG7 := Lib.hid (And.intro (f7 w6.heap.size (Nat.le_refl _) (by simp)) (And.intro HM5.out.st.size (HM5.out.wait.low g rfl).2)); have HIA := Lib.hid (And.intro (ia.estep s7) (ib.estep s7)); have HL2 := Lib.hid (And.intro hl2 (And.intro hz2 (And.intro hA2 hB2))); have hnw : ∀ b, W3.heap.size ≤ b → b ≠ g := fun b hb e => by have := HG7.out.2.2; omega
     have HNW := Lib.hid hnw; clear hl2 hz2 hA2 hB2 h6 s6 ia ib hm6 hb7 hr7 s7 f7 HM5 hnw; cases o with
     | none => exact absurd rfl HNO.out
     | some o =>
     cases o with
     | false =>
       have hr := HR.out; rw [if_neg (by simp)] at hr; have HR3 := Lib.hid hr; clear hr HR; simp only [hasB]; go_wp2; go_ret2; rw [HR3.out]; have e := HK.out; subst e; exact ⟨rfl, D6, by rw [show 20000 - k2 = k1 + 1 by have := HJ.out; omega]; exact HM7.out.ex, HM7.out.st⟩
     | true =>
       have hr := HR.out; rw [if_pos rfl] at hr; have e := HK.out; subst e; have HR3 := Lib.hid hr; clear hr HR HK; simp only [hasB]
       go_upto_region 14 with fail
       generalize w6.alloc (.cells #[.slice qa A2.length ca, .slice qz B2.length cz] 122 (0, 0)) = W7 at *; generalize w6.heap.size = g7 at *; have p0 : W7.cell? ⟨g7, 0, none⟩ = some (.slice qa A2.length ca) := cell_of_row _ _ 0 _ _ _ HR7.out; have p1 : W7.cell? ⟨g7, 1, none⟩ = some (.slice qz B2.length cz) := cell_of_row _ _ 1 _ _ _ HR7.out; have hlen := HAT.out.len; have hext := HEXT.out
       have hinn : InL S2 (flatW Wr) := fun q hq => by
        have h0 := HAT.out.inn q (by rw [HF2.out.1]; exact List.mem_cons_of_mem _ hq); have := hext.len; omega
       have hmr : ∀ q ∈ more, q.1 < S2.cells.length ∧ q.2 < S2.cells.length := fun q hq => by
        have h0 := HMORE.out q hq; have := hext.len; omega
       obtain ⟨f, hf⟩ : ∃ f, gk = f + 1 := ⟨gk - 1, by have := HAT.out.fuel; have := HJ.out; omega⟩; subst hf; have hfu := HAT.out.fuel; have HPL := Lib.hid (And.intro hinn (And.intro hmr (And.intro hext.inv (And.intro (show k1 + 1 ≤ 20000 by have := HJ.out; omega) (show 20000 - (k1 + 1) = k2 ∧ 20000 - (k1 + 1) ≤ f by have := HJ.out; omega))))); clear hext hinn hmr hfu
       by_cases ha2 : A2 = []
       ·subst ha2
        have hrel : UnRel w0 p rb qb lv L at_ sl R D w f (.slice (some ⟨g, 0, none⟩) nr c8) W7 := by
         refine ⟨S2, D6, k1 + 1, Wr, HM7.out.ex, HM7.out.st, HPL.out.2.2.1, HM7.out.wait, HM7.out.own, HF2.out.2.1, HPL.out.1, HPL.out.2.2.2.1, HPL.out.2.2.2.2.2, ?_, ?_, HAT.out.lvF, HAT.out.low⟩
         ·have := HF2.out.2.2.2; simp only [List.length_cons] at hlen; omega
         ·rw [HR3.out, HPL.out.2.2.2.2.1]
          congr 1
          have := HL2.out.2.1; rw [← this]
          simp
        have HREL := Lib.hid hrel; have e3 : decide ((0 : Int) < ((0 : Nat) : Int)) = false := rfl; clear hrel hlen p1 HM7 HR7 HG7 HIA; simp only [List.length_nil] at p0; go_wp2
        go_roundg f
        case measure => omega
        case rel => exact HREL.out
       ·obtain ⟨la, hla⟩ : ∃ la, la + 1 = A2.length := ⟨A2.length - 1, by have : 0 < A2.length := List.length_pos_iff.2 ha2; omega⟩
        have e3 : decide ((0 : Int) < (la : Int) + 1) = true := by simp
        obtain ⟨lb, hlb⟩ : ∃ lb, lb = B2.length := ⟨_, rfl⟩; rw [← hla] at p0 HR7 HIA; rw [← hlb] at p1 HR7 HIA; have HLA := Lib.hid (And.intro hla hlb); have HNE := Lib.hid ha2; clear hla hlb ha2
        go_upto_region 15 with fail
        have hb8 := below_new W7 (.cells #[.slice qa (la + 1) ca, .slice qz lb cz] 122 (0, 0)); have hr8 := heap_alloc_new W7 (.cells #[.slice qa (la + 1) ca, .slice qz lb cz] 122 (0, 0)); obtain ⟨-, s8, -⟩ := HM7.out.ex.below hb8; have HM8 := Lib.hid (HM7.out.below hb8); have HR8 := Lib.hid hr8; have HIA8 := Lib.hid (And.intro (HIA.out.1.estep s8) (HIA.out.2.estep s8)); have hwl : Wr.reverse.length = nr := by rw [List.length_reverse]; exact HF2.out.2.2.1.symm
        have HWL := Lib.hid (And.intro hwl (show nr ≤ 20001 by have := HF2.out.2.2.1; have := HF2.out.2.2.2; simp only [List.length_cons] at hlen; omega)); have HSZ := Lib.hid (show w.heap.size ≤ (W7.alloc (.cells #[.slice qa (la + 1) ca, .slice qz lb cz] 122 (0, 0))).heap.size from Nat.le_trans HM7.out.st.size hb8.size); clear hb8 hr8 s8 HM7 HR7 HIA hwl hlen
        go_wp2_with (first
         | (with_reducible show wpList _ _ _ (⟨some 95, _, _, _, _, _⟩ :: _) _ _
            refine wpList_put (K := pqKind) rfl (.tmp 92) (.tmp 94) 123 rfl Try.underlying123 info_pairs rfl w.heap.size (fun b => w.heap.size ≤ b ∧ EOut rb qb D6 (W7.alloc (.cells #[.slice qa (la + 1) ca, .slice qz lb cz] 122 (0, 0))) b) (.slice (some ⟨g, 0, none⟩) nr c8) Wr.reverse [.slice qa (la + 1) ca, .slice qz lb cz] (A2, B2) W7.heap.size 1 _ _ rfl HM8.out.wait rfl HR8.out ?_ (by rw [HWL.out.1]; unfold maxLen; have := HWL.out.2; omega) (by rw [HWL.out.1]; have := HWL.out.2; omega) HSZ.out ?_
            ·exact ⟨_, _, rfl, HIA8.out.1.move (fun b hb _ => ⟨⟨Nat.le_trans HG7.out.2.1 hb.1, hb.2⟩, fun e => HNW.out b hb.1 (by simpa [Value.ownBlock] using e.symm)⟩) (fun _ _ _ => rfl), HIA8.out.2.move (fun b hb _ => ⟨⟨Nat.le_trans HG7.out.2.1 hb.1, hb.2⟩, fun e => HNW.out b hb.1 (by simpa [Value.ownBlock] using e.symm)⟩) (fun _ _ _ => rfl)⟩
            intro v9 w9 hown9 hb9 hg9 hv9
            skip))
        have hm9 := HM8.out.put rfl hown9 hg9 hv9 HAT.out.lvF HAT.out.low
        have hrel : UnRel w0 p rb qb lv L at_ sl R D w f v9 w9 := by
         refine ⟨S2, D6, k1 + 1, (A2, B2) :: Wr, hm9.ex, hm9.st, HPL.out.2.2.1, by rw [List.reverse_cons]; exact hm9.wait, hm9.own, fun q hq => ?_, fun q hq => ?_, HPL.out.2.2.2.1, HPL.out.2.2.2.2.2, ?_, ?_, HAT.out.lvF, HAT.out.low⟩
         ·rcases List.mem_cons.1 hq with rfl | hq
          ·exact ⟨HL2.out.1, HNE.out, HL2.out.2.2.1, HL2.out.2.2.2⟩
          ·exact HF2.out.2.1 q hq
         ·rw [flat_cons] at hq
          rcases List.mem_append.1 hq with hq | hq
          ·exact HPL.out.2.1 q (by rw [← HL2.out.2.1]; exact hq)
          ·exact HPL.out.1 q hq
         ·have := HAT.out.len; have := HF2.out.2.2.2; simp only [List.length_cons] at *; omega
         ·rw [HR3.out, HPL.out.2.2.2.2.1, flat_cons, ← HL2.out.2.1]
        have HREL := Lib.hid hrel; clear hrel hown9 hb9 hg9 hv9 hm9 p0 p1; go_wp2
        go_roundg f
        case measure => omega
        case rel => exact HREL.out
end Go.Proofs.Ytcbijikalfodnaa.Tms
namespace Go.Proofs.Ytcbijikalfodnaa.Tms
open Go Go.RowKit Go.Proofs.Ytcbijikalfodnaa.Reg Go.Proofs.Ytcbijikalfodnaa.Rws Go.Proofs.Ytcbijikalfodnaa.Maps
def areB (S : Sto) (l : List Int) (none_ : Bool) : Bool := l.all fun c => (none_ && c == -1) || (decide (0 ≤ c) && decide (c < (S.cells.length : Int)))
def ArRel (S : Sto) (l : List Int) (nn : Bool) (w : World) (v : Value) (wr : World) : Prop := ∃ i : Nat, i ≤ l.length ∧ v = .int .i64 i ∧ areB S (l.take i) nn = true ∧ w = wr
theorem are_snoc (S : Sto) (l : List Int) (nn : Bool) (i : Nat) (h : i < l.length) : areB S (l.take (i + 1)) nn = (areB S (l.take i) nn && ((nn && l[i] == -1) || (decide (0 ≤ l[i]) && decide (l[i] < (S.cells.length : Int))))) := by
 unfold areB; rw [List.take_succ_eq_append_getElem h, List.all_append]
 simp
theorem are_bad (S : Sto) (l : List Int) (nn : Bool) (i : Nat) (h : i < l.length) (hb : ((nn && l[i] == -1) || (decide (0 ≤ l[i]) && decide (l[i] < (S.cells.length : Int)))) = false) : areB S l nn = false := by
 unfold areB; rw [List.all_eq_false]; exact ⟨l[i], List.getElem_mem h, by rw [hb]; simp⟩
theorem ex_are {S : Sto} {D : Nat → Prop} {p : Nat} (w : World) (hS : StoAt w D p S) (hlen : S.cells.length ≤ 20000000) (l : List Int) (v : Value) (P : Nat → Prop) (hl : IntSl w P v l) (hll : l.length ≤ 1000000) (nn : Bool) :
 Calls Try.prog 26 #[.pointer (some ⟨p, 0, none⟩), v, .bool nn] w fun e w' => e = .returned (.bool (areB S l nn)) ∧ w = w' := by
 obtain ⟨a, cap, rfl, h1, h2, h3⟩ := hl; have H3 := Lib.hid h3; clear h3
 go_enter Try.func26, Try.ntmps26
 go_wp2_with fail
 refine (sto_Cells w hS).mono ?_; rintro e w2 ⟨rfl, rfl⟩; go_wp2
 go_loopw [14] (fun v14 wr => ArRel S l nn w v14 wr) (fun v14 _ => l.length - (intOf v14).toNat)
 case atStart => exact ⟨0, by omega, rfl, rfl, rfl⟩
 case round =>
  obtain ⟨i, hi, rfl, hall, rfl⟩ := hrel; have HA := Lib.hid hall; clear hall
  by_cases hin : i < l.length
  ·have b1 : decide ((i : Int) < (l.length : Int)) = true := by simp; omega
   have b2 : decide (i < l.length) = true := by simpa using hin
   obtain ⟨b, off, ea, -, hbl, hc⟩ := H3.out i hin; subst ea; obtain ⟨c, hcv⟩ : ∃ c, c = l[i] := ⟨_, rfl⟩; rw [← hcv] at hc; have HCV := Lib.hid hcv; clear hcv; have HSN := Lib.hid (are_snoc S l nn i hin); have HBD := Lib.hid (are_bad S l nn i hin); rw [← HCV.out] at HSN HBD
   by_cases hm : nn = true ∧ c = -1
   ·have c1 : (c == -1) = true := by rw [hm.2]; rfl
    have hnn := hm.1; have HN := Lib.hid (show areB S (l.take (i + 1)) nn = true by rw [HSN.out, HA.out, hm.1, hm.2]; rfl); clear hm; subst hnn; go_wp2; go_roundw
    case measure => simp [intOf]; omega
    case rel => exact ⟨i + 1, by omega, rfl, HN.out, rfl⟩
   ·have hnn : (nn && c == -1) = false := by
     cases nn
     ·rfl
     ·have : c ≠ -1 := fun e => hm ⟨rfl, e⟩
      simpa using this
    have HNN := Lib.hid hnn; have hcn : nn = true → (c == -1) = false := fun e => by rw [e] at hnn; simpa using hnn
    clear hm
    by_cases hr : 0 ≤ c ∧ c < (S.cells.length : Int)
    ·have HN := Lib.hid (show areB S (l.take (i + 1)) nn = true by rw [HSN.out, HA.out, HNN.out, decide_eq_true hr.1, decide_eq_true hr.2]; rfl)
     have c2 : decide (c < 0) = false := by simp; omega
     have c3 : decide ((S.cells.length : Int) ≤ c) = false := by simp; omega
     clear hr; cases nn
     ·clear hnn hcn
      go_wp2; go_roundw
      case measure => simp [intOf]; omega
      case rel => exact ⟨i + 1, by omega, rfl, HN.out, rfl⟩
     ·have c1 := hcn rfl
      clear hnn hcn; go_wp2; go_roundw
      case measure => simp [intOf]; omega
      case rel => exact ⟨i + 1, by omega, rfl, HN.out, rfl⟩
    ·have HB := Lib.hid (show areB S l nn = false from HBD.out (by
      rw [HNN.out]
      by_cases h0 : 0 ≤ c
      ·rw [decide_eq_true h0, decide_eq_false (fun h => hr ⟨h0, h⟩)]; rfl
      ·rw [decide_eq_false h0]; rfl))
     by_cases h0 : c < 0
     ·have c2 : decide (c < 0) = true := by simpa using h0
      clear hr h0; cases nn
      ·clear hnn hcn
       go_wp2; go_ret; exact ⟨by rw [HB.out]; rfl, rfl⟩
      ·have c1 := hcn rfl
       clear hnn hcn; go_wp2; go_ret; exact ⟨by rw [HB.out]; rfl, rfl⟩
     ·have c2 : decide (c < 0) = false := by simpa using h0
      have c3 : decide ((S.cells.length : Int) ≤ c) = true := by simp; omega
      clear hr h0; cases nn
      ·clear hnn hcn
       go_wp2; go_ret; exact ⟨by rw [HB.out]; rfl, rfl⟩
      ·have c1 := hcn rfl
       clear hnn hcn; go_wp2; go_ret; exact ⟨by rw [HB.out]; rfl, rfl⟩
  ·have b1 : decide ((i : Int) < (l.length : Int)) = false := by simp; omega
   have b2 : decide (i < l.length) = false := by simpa using hin
   obtain rfl : i = l.length := by omega
   rw [List.take_length] at HA; go_wp2; go_ret; exact ⟨by rw [HA.out]; rfl, rfl⟩
end Go.Proofs.Ytcbijikalfodnaa.Tms
namespace Go.Proofs.Ytcbijikalfodnaa.Tms
open Go Go.RowKit Go.Proofs.Ytcbijikalfodnaa.Reg Go.Proofs.Ytcbijikalfodnaa.Rws Go.Proofs.Ytcbijikalfodnaa.Maps
open Go.Proofs.Ytcbijikalfodnaa.Cod (Ins Cod sk check slotsN InsSl InsAt codVal)
def StartPost (p : Nat) (v : Value) (n : Nat) (w : World) (e : Ending) (w' : World) : Prop := ∃ rb qb, e = .returned (.pointer (some ⟨rb, 0, none⟩)) ∧ w'.heap[rb]? = some (exO p v 0 (.slice (some ⟨qb, 0, none⟩) n n) 0) ∧ IFill w' qb n (List.replicate n (-1)) ∧ Below w.heap.size w w' ∧ w.heap.size ≤ rb ∧ w.heap.size ≤ qb ∧ qb ≠ rb
abbrev exZ (p : Nat) (lv : Value) (sv : Value) : Obj := .cells #[.pointer (some ⟨p, 0, none⟩), lv, .int .i64 0, sv, .nilFunc, .nilFunc, .nilFunc, .nilFunc, .nilFunc, .nilFunc, .nilFunc, .int .i64 0] 88 (0, 0)
def StRel (p : Nat) (lv : Value) (rb qb n : Nat) (w : World) (v : Value) (wr : World) : Prop := ∃ i : Nat, i ≤ n ∧ v = .int .i64 i ∧ IFill wr qb n (List.replicate i (-1)) ∧ wr.heap[rb]? = some (exZ p lv (.slice (some ⟨qb, 0, none⟩) n n)) ∧ Below w.heap.size w wr
theorem row_ex {w : World} {g : Nat} {p : Nat} {lv sv : Value} (h : w.heap[g]? = some (exZ p lv sv)) : w.cell? ⟨g, 3, none⟩ = some sv := cell_of_row w g 3 _ _ _ h
abbrev stepsL : List Value := [.nilFunc, .func (.func 53) #[] #[], .func (.func 54) #[] #[], .func (.func 54) #[] #[], .func (.func 55) #[] #[], .func (.func 56) #[] #[], .func (.func 57) #[] #[]]
theorem seven_cells (w : World) (g o : Nat) (x0 x1 x2 x3 x4 x5 x6 : Value) : w.setCells g o [x0, x1, x2, x3, x4, x5, x6] = ((((((w.setCell ⟨g, o, none⟩ x0).setCell ⟨g, o + 1, none⟩ x1).setCell ⟨g, o + 2, none⟩ x2).setCell ⟨g, o + 3, none⟩ x3).setCell ⟨g, o + 4, none⟩ x4).setCell ⟨g, o + 5, none⟩ x5).setCell ⟨g, o + 6, none⟩ x6 := by
 simp [World.setCells]
theorem seven_row {w : World} {g : Nat} {t : TypeId} {x0 x1 x2 x3 x4 x5 x6 x7 x8 x9 xa xb : Value} (h : w.heap[g]? = some (.cells #[x0, x1, x2, x3, x4, x5, x6, x7, x8, x9, xa, xb] t (0, 0))) (y4 y5 y6 y7 y8 y9 ya : Value) : w.there g 4 7 ∧ (w.setCells g 4 [y4, y5, y6, y7, y8, y9, ya]).heap[g]? = some (.cells #[x0, x1, x2, x3, y4, y5, y6, y7, y8, y9, ya, xb] t (0, 0)) := by
 constructor
 ·intro j hj
  refine ⟨?_, frozen_of_row w g _ _ _ h⟩; rw [cell_of_row w g _ _ _ _ h, Option.isSome_iff_ne_none]
  simp
  omega
 ·rw [seven_cells]
  have e1 := heap_setCell_same w g 4 _ _ y4 h; have e2 := heap_setCell_same _ g 5 _ _ y5 e1; have e3 := heap_setCell_same _ g 6 _ _ y6 e2; have e4 := heap_setCell_same _ g 7 _ _ y7 e3; have e5 := heap_setCell_same _ g 8 _ _ y8 e4; have e6 := heap_setCell_same _ g 9 _ _ y9 e5; have e7 := heap_setCell_same _ g 10 _ _ ya e6
  simpa using e7
theorem seven_other (w : World) (g : Nat) (y4 y5 y6 y7 y8 y9 ya : Value) {b : Nat} (hb : b ≠ g) : (w.setCells g 4 [y4, y5, y6, y7, y8, y9, ya]).heap[b]? = w.heap[b]? := by
 rw [seven_cells]; exact (Below.heap_setCell _ _ _ _ hb).trans ((Below.heap_setCell _ _ _ _ hb).trans ((Below.heap_setCell _ _ _ _ hb).trans ((Below.heap_setCell _ _ _ _ hb).trans ((Below.heap_setCell _ _ _ _ hb).trans ((Below.heap_setCell _ _ _ _ hb).trans (Below.heap_setCell _ _ _ _ hb))))))
theorem seven_below {w0 w : World} {n g : Nat} (h : Below n w0 w) (hg : n ≤ g) (y4 y5 y6 y7 y8 y9 ya : Value) : Below n w0 (w.setCells g 4 [y4, y5, y6, y7, y8, y9, ya]) := by
 rw [seven_cells]; exact ((((((h.setCell hg _).setCell hg _).setCell hg _).setCell hg _).setCell hg _).setCell hg _).setCell hg _
theorem steps_row {w : World} {p rb : Nat} {lv sv : Value} (h : w.heap[rb]? = some (exZ p lv sv)) : w.there rb 4 7 ∧ (w.setCells rb 4 stepsL).heap[rb]? = some (exO p lv 0 sv 0) := seven_row h _ _ _ _ _ _ _
theorem steps_one : stepsL.toArray.all (·.oneCell') = true := by
 apply all_oneCell_toArray
 intro v hv; simp only [stepsL, List.mem_cons, List.not_mem_nil, or_false] at hv; rcases hv with rfl | rfl | rfl | rfl | rfl | rfl | rfl <;> rfl
theorem size_steps : (Try.prog.info? 86).map (·.size) = some 7 := by kernel_rfl
theorem ex_start (p : Nat) (c : Cod) (v : Value) (w : World) (n : Nat) (hn : c.slots = (n : Int)) (hn2 : n ≤ 1000000) (hvs : ∃ a m k, v = .slice a m k) : Calls Try.prog 27 #[.pointer (some ⟨p, 0, none⟩), codVal c v] w (StartPost p v n w) := by
 obtain ⟨va, vm, vk, rfl⟩ := hvs; obtain ⟨i0, hti, hy0, hy1, hy2⟩ := info_parts info_int; have hal := (Below.refl w.heap.size w).alloc (Nat.le_refl _) (.cells #[.string c.name, .int .i64 c.args, .int .i64 c.slots, .int .i64 c.body, .slice va vm vk] 30 (0, 0)); have hr := heap_alloc_new w (.cells #[.string c.name, .int .i64 c.args, .int .i64 c.slots, .int .i64 c.body, .slice va vm vk] 30 (0, 0)); have HB := Lib.hid hal; have HR := Lib.hid hr; have HN := Lib.hid hn; clear hal hr hn
 go_enter Try.func27, Try.ntmps27
 go_upto_region 1 with fail
 generalize w.alloc (.cells #[.string c.name, .int .i64 c.args, .int .i64 c.slots, .int .i64 c.body, .slice va vm vk] 30 (0, 0)) = W1 at *; refine wp_region_rest (by kernel_rfl) ?_; have hd := (Below.refl W1.heap.size W1).drew; have HB0 := Lib.hid (HB.out.trans (hd.mono HB.out.size)); obtain ⟨c0, c1, c2, c3, c4⟩ := row5 (row_on HR.out hd); have hlt := (Array.getElem?_eq_some_iff.1 (row_on HR.out hd)).1; rw [HN.out] at c2; clear hd HB HR; generalize W1.drew = W0 at *; refine rest_chainP (fun u => Below W0.heap.size W0 u) 0 9 (.soft 0 (.soft 1 (.soft 2 (.soft 3 (.soft 4 (.one 5 (.soft 6 (.one 7 (.soft 8 .nil))))))))) (.soft _ (.soft _ (.soft _ (.soft _ (.soft _ (.one _ (.soft _ (.one _ (.soft _ .nil))))))))) ⟨rfl, ⟨rfl, ⟨rfl, ⟨rfl, ⟨rfl, ⟨rfl, ⟨rfl, ⟨rfl, ⟨rfl, trivial⟩⟩⟩⟩⟩⟩⟩⟩⟩ (by kernel_rfl) (by kernel_rfl) (by kernel_rfl) (by kernel_rfl) (.inl rfl) (Below.refl _ _) ?_; refine cS (a1 := ?ma1) ?mh1 ?mr1
 case mh1 =>
  intro u hu E hE; go_wp2; rfl
 refine cS (a1 := ?ma2) ?mh2 ?mr2
 case mh2 =>
  intro u hu E hE; go_wp2; rfl
 refine cS (a1 := ?ma3) ?mh3 ?mr3
 case mh3 =>
  intro u hu E hE; have e4 := (hu.cell (p := ⟨w.heap.size, 4, none⟩) hlt).trans c4; go_wp2; rfl
 refine cS (a1 := ?ma4) ?mh4 ?mr4
 case mh4 =>
  intro u hu E hE; go_wp2; rfl
 refine cS (a1 := ?ma5) ?mh5 ?mr5
 case mh5 =>
  intro u hu E hE; have e2 := (hu.cell (p := ⟨w.heap.size, 2, none⟩) hlt).trans c2; go_wp2; rfl
 refine chainP_one ?_; intro E hE; refine wpList_make_full _ rfl (.tmp 11) (.tmp 11) 38 rfl W0.heap.size 3 i0 _ 1 Try.underlying38 hti hy0 hy1 .i64 .i64 _ _ n rfl rfl rfl rfl (by rw [hy2]; omega) (by unfold maxLen; omega) (Nat.le_refl _) ?_; intro w3 hown hgr; have hif := IFill.made hown; have hb3 : Below W0.heap.size W0 w3 := (Below.refl _ _).grown hgr (Nat.le_refl _) (by simp); refine hE _ _ ⟨hb3, ?_⟩; clear c0 c1 c2 c3 c4 hown hgr hti hy0 hy1 hy2; refine cS (a1 := ?ma6) ?mh6 ?mr6
 case mh6 =>
  intro u hu E hE; go_wp2; rfl
 refine chainP_one ?_; intro E hE; go_wp2; have ha3 := (Below.refl w3.heap.size w3).alloc (Nat.le_refl _) (exZ p (.slice va vm vk) (.slice (some ⟨W0.heap.size, 0, none⟩) n n)); have hr3 := heap_alloc_new w3 (exZ p (.slice va vm vk) (.slice (some ⟨W0.heap.size, 0, none⟩) n n)); have hb4 := hb3.trans (ha3.mono hb3.size); have hqr : W0.heap.size ≠ w3.heap.size := by have := hif.lt; omega
 refine ⟨hb4, ?_⟩; refine cS (a1 := ?ma7) ?mh7 ?mr7
 case mh7 =>
  intro u hu E hE; go_wp2; rfl
 refine chainP_nil (rest_end (by decide) ?_); have hst : StRel p (.slice va vm vk) w3.heap.size W0.heap.size n w (.int .i64 ((0 : Nat) : Int)) (w3.alloc (exZ p (.slice va vm vk) (.slice (some ⟨W0.heap.size, 0, none⟩) n n))) := ⟨0, by omega, rfl, hif.keep (ha3.block _ hif.lt), hr3, HB0.out.trans (hb4.mono HB0.out.size)⟩; have HST := Lib.hid hst; have HQ := Lib.hid (And.intro hqr (And.intro HB0.out.size (Nat.le_trans HB0.out.size hb3.size))); have x3 := row_ex hr3; clear hst hqr hb4 ha3 hr3 hif hb3 HB0 hlt; go_wp2; clear x3; generalize w3.alloc (exZ p (.slice va vm vk) (.slice (some ⟨W0.heap.size, 0, none⟩) n n)) = W4 at *; generalize w3.heap.size = rb at *; generalize W0.heap.size = qb at *
 go_loopw [20] (fun v20 wr => StRel p (.slice va vm vk) rb qb n w v20 wr) (fun v20 _ => n - (intOf v20).toNat)
 case atStart => exact HST.out
 case round =>
  clear HST; obtain ⟨i, hi, rfl, hfi, hrow, hbw⟩ := hrel; have HR := Lib.hid hrow; have HF := Lib.hid hfi; have HB := Lib.hid hbw; have x3 := row_ex hrow; clear hrow hbw hfi
  by_cases hin : i < n
  ·have b1 : decide ((i : Int) < (n : Int)) = true := by simp; omega
   have b2 : decide (i < n) = true := by simpa using hin
   obtain ⟨⟨y, hy⟩, hfz, hp, hk⟩ := HF.out.put (q := i) (by simp) hin (-1); have hcm : n ≤ maxLen := by unfold maxLen; omega
   have HRL := Lib.hid (show StRel p (.slice va vm vk) rb qb n w (.int .i64 ((i + 1 : Nat) : Int)) (wr.setCell ⟨qb, i, none⟩ (.int .i64 (-1))) from
    ⟨i + 1, by omega, rfl, by rw [List.replicate_succ']; exact hp, (Below.heap_setCell _ _ _ _ (fun e => HQ.out.1 e.symm)).trans HR.out, HB.out.setCell HQ.out.2.1 _⟩)
   clear hp hk; go_wp2; go_roundw
   case measure => simp [intOf]; omega
   case rel => exact HRL.out
  ·have b1 : decide ((i : Int) < (n : Int)) = false := by simp; omega
   have b2 : decide (i < n) = false := by simpa using hin
   obtain rfl : i = n := by omega
   obtain ⟨hth, hrn⟩ := steps_row HR.out; have HTH := Lib.hid hth
   have HSP := Lib.hid (show StartPost p (.slice va vm vk) i w (.returned (.pointer (some ⟨rb, 0, none⟩))) (wr.setCells rb 4 stepsL) from
    ⟨rb, qb, rfl, hrn, HF.out.keep (seven_other wr rb _ _ _ _ _ _ _ HQ.out.1), seven_below HB.out HQ.out.2.2 _ _ _ _ _ _ _, HQ.out.2.2, HQ.out.2.1, HQ.out.1⟩)
   clear hth hrn HR HF
   go_wp2_with (with_reducible show wpList _ _ _ (⟨none, .store _ (.tmp 33) _, _, _, _, _⟩ :: _) _ _
                refine wpList_store_mid rfl 86 (.tmp 33) (.tmp 31) rfl rb 4 stepsL.toArray rfl rfl HTH.out size_steps steps_one ?_)
   exact bodyPost_ret (v := .pointer (some ⟨rb, 0, none⟩)) (by simp [results, Try.results27, go_sem]) rfl HSP.out
end Go.Proofs.Ytcbijikalfodnaa.Tms
