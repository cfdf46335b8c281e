
/-
  A region that draws its order, walked operation by operation: whatever order is drawn, each operation meets what its own forerunners left, and the last operations (the tail) come in their own order. Plain theorems over any program; nothing of the seat stands here.
-/
import Derived.WalkKit
import Derived.StillTail
import Derived.Orders
namespace Go.Proofs.YtkhchmgdaolojaaDoor.Reg
open Go Go.RowKit

section
variable {P : Program} {ops : Array Oper} {Q : Exit → Act → World → Prop}

/-- every edge leads back -/
def backB (ops : Array Oper) : Bool :=
  (List.range ops.size).all fun i => match ops[i]? with
    | some o => o.after.all fun e => !Region.binds .any e || decide (e.on < i)
    | none => true

theorem backB_spec (h : backB ops = true) {i : Nat} {o : Oper} (ho : ops[i]? = some o) : ∀ e ∈ o.after, Region.binds .any e = true → e.on < i := by
  intro e he hb
  have h1 := List.all_eq_true.1 h i (List.mem_range.2 (Array.getElem?_eq_some_iff.1 ho).1)
  simp only [ho, Array.all_eq_true_iff_forall_mem] at h1
  simpa [hb] using h1 e he

structure Good (ops : Array Oper) (L : Array Bool) : Prop where
  size : L.size = ops.size
  closed : ∀ j oj, ops[j]? = some oj → L.getD j false = true → ∀ e ∈ oj.after, Region.binds .any e = true → L.getD e.on false = true

theorem Good.set {L : Array Bool} (g : Good ops L) {i : Nat} {o : Oper} (ho : ops[i]? = some o) (hall : ∀ e ∈ o.after, Region.binds .any e = true → L.getD e.on false = true) :
    Good ops (L.setIfInBounds i true) := by
  refine ⟨by simp [g.size], fun j oj hj hl e he hb => ?_⟩
  by_cases hij : i = j
  · subst hij
    obtain rfl : oj = o := Option.some.inj (hj.symm.trans ho)
    exact getD_set_true (hall e he hb)
  · rw [getD_set_ne false hij] at hl
    exact getD_set_true (g.closed j oj hj hl e he hb)

theorem ready_of_unlisted (hB : backB ops = true) {L : Array Bool} (g : Good ops L) : ∀ i, i < ops.size → L.getD i false = false → Region.ready .any ops L ≠ [] := by
  intro i
  induction i using Nat.strongRecOn with
  | _ i ih =>
    intro hi hf
    have ho : ops[i]? = some ops[i] := Array.getElem?_eq_getElem hi
    by_cases hall : ∀ e ∈ ops[i].after, Region.binds .any e = true → L.getD e.on false = true
    · intro h0
      have : i ∈ Region.ready .any ops L := mem_ready.2 ⟨getD_in (by rw [g.size]; exact hi) hf, _, ho, hall⟩
      rw [h0] at this
      cases this
    · have : ∃ e, e ∈ ops[i].after ∧ Region.binds .any e = true ∧ L.getD e.on false = false := by
        refine Classical.byContradiction fun hne => hall fun e he hb => ?_
        cases hc : L.getD e.on false with
        | true => rfl
        | false => exact absurd ⟨e, he, hb, hc⟩ hne
      obtain ⟨e, he, hb, hc⟩ := this
      have := backB_spec hB ho e he hb
      exact ih e.on this (by omega) hc

theorem count_set {l : List Bool} {i : Nat} (h : l[i]? = some false) : (l.set i true).count false + 1 = l.count false := by
  induction l generalizing i with
  | nil => simp at h
  | cons b l ih =>
    cases i with
    | zero => simp at h; subst h; simp
    | succ i =>
      have := ih (i := i) (by simpa using h)
      simp only [List.set_cons_succ, List.count_cons]
      omega

theorem all_of_count {l : List Bool} (h : l.count false = 0) : ∀ i, i < l.length → l[i]? = some true := by
  intro i hi
  rw [List.getElem?_eq_getElem hi]
  congr 1
  cases hb : l[i] with
  | true => rfl
  | false =>
    have : false ∈ l := hb ▸ List.getElem_mem hi
    have := List.count_pos_iff.2 this
    omega


/-! ### Where all that follows waits for all that stands ahead -/

def cutB (ops : Array Oper) (k n : Nat) : Bool :=
  ((List.range n).all fun i => decide (i < k) || (List.range (n + 1)).any fun j => decide (i < j) && Region.waitsFor .any ops j i) &&
  (List.range ops.size).all fun t => decide (t ≤ n) || (List.range t).any fun j => decide (n ≤ j) && Region.waitsFor .any ops t j

theorem cut_first {k n : Nat} (h : cutB ops k n = true) {L : Array Bool} (g : Good ops L) (hk : ∀ i, i < k → L.getD i false = true) {o : Oper} (ho : ops[n]? = some o)
    (hall : ∀ e ∈ o.after, Region.binds .any e = true → L.getD e.on false = true) : ∀ d i, n - i = d → i < n → L.getD i false = true := by
  simp only [cutB, Bool.and_eq_true, List.all_eq_true, List.mem_range, Bool.or_eq_true, decide_eq_true_eq, List.any_eq_true] at h
  intro d
  induction d using Nat.strongRecOn with
  | _ d ih =>
    intro i hd hi
    rcases h.1 i hi with hlt | ⟨j, hj, hij, hw⟩
    · exact hk i hlt
    · obtain ⟨oj, hoj, e, he, hb, hon⟩ := Region.waitsFor_spec hw
      rw [← hon]
      by_cases hjn : j = n
      · subst hjn
        obtain rfl : oj = o := Option.some.inj (hoj.symm.trans ho)
        exact hall e he hb
      · exact g.closed j oj hoj (ih (n - j) (by omega) j rfl (by omega)) e he hb

theorem cut_spec {k n : Nat} (h : cutB ops k n = true) {L : Array Bool} (g : Good ops L) (hk : ∀ i, i < k → L.getD i false = true) (hlt : n < ops.size) :
    ∀ t o, n ≤ t → ops[t]? = some o → (∀ e ∈ o.after, Region.binds .any e = true → L.getD e.on false = true) → ∀ i, i < n → L.getD i false = true := by
  intro t
  induction t using Nat.strongRecOn with
  | _ t ih =>
    intro o hnt ho hall i hi
    by_cases htn : t = n
    · subst htn
      exact cut_first h g hk ho hall (t - i) i rfl hi
    · have h2 := h
      simp only [cutB, Bool.and_eq_true, List.all_eq_true, List.mem_range, Bool.or_eq_true, decide_eq_true_eq, List.any_eq_true] at h2
      rcases h2.2 t (Array.getElem?_eq_some_iff.1 ho).1 with hle | ⟨j, hj, hnj, hw⟩
      · omega
      · obtain ⟨ot, hot, e, he, hb, hon⟩ := Region.waitsFor_spec hw
        obtain rfl : ot = o := Option.some.inj (hot.symm.trans ho)
        have hjl := hall e he hb
        rw [hon] at hjl
        have hjs : j < ops.size := by have := (Array.getElem?_eq_some_iff.1 ho).1; omega
        exact ih j hj ops[j] hnj (Array.getElem?_eq_getElem hjs) (fun e' he' hb' => g.closed j ops[j] (Array.getElem?_eq_getElem hjs) hjl e' he' hb') i hi

/-- What is left from operation k on, all ahead of it done. -/
def Rest (P : Program) (ops : Array Oper) (Q : Exit → Act → World → Prop) (k : Nat) (a : Act) (w : World) : Prop :=
  ∀ L, Good ops L → (∀ i, i < k → i < ops.size → L.getD i false = true) → (∀ i, k ≤ i → L.getD i false = false) → wpAny P .any ops Q (ops.size - k) L a w

theorem count_first : ∀ (l : List Bool) (k : Nat), (∀ i, i < k → i < l.length → l.getD i false = true) → (∀ i, k ≤ i → l.getD i false = false) → l.count false = l.length - k
  | [], k, _, _ => by simp
  | b :: l, 0, _, h2 => by
    have hb : b = false := by simpa using h2 0 (Nat.le_refl _)
    have := count_first l 0 (fun i hi => by omega) (fun i _ => by simpa using h2 (i + 1) (by omega))
    subst hb
    simp [this]
  | b :: l, k + 1, h1, h2 => by
    have hb : b = true := by simpa using h1 0 (by omega) (by simp)
    have := count_first l k (fun i hi hl => by simpa using h1 (i + 1) (by omega) (by simpa using hl)) (fun i hi => by simpa using h2 (i + 1) (by omega))
    subst hb
    simp [this]

theorem count_rest {L : Array Bool} (g : Good ops L) {k : Nat} (h1 : ∀ i, i < k → i < ops.size → L.getD i false = true) (h2 : ∀ i, k ≤ i → L.getD i false = false) : L.toList.count false = ops.size - k := by
  have := count_first L.toList k (fun i hi hl => by have := h1 i hi (by simpa [g.size] using hl); simpa using this) (fun i hi => by have := h2 i hi; simpa using this)
  simpa [g.size] using this

/-- AN INVARIANT, UP TO A PLACE WHERE ALL WAITS. -/
theorem wpAny_upto (I : Array Bool → Act → World → Prop) (hB : backB ops = true) {k n : Nat} (hn : n ≤ ops.size) (hcut : n = ops.size ∨ cutB ops k n = true)
    (hstep : ∀ L a w i o, Good ops L → i < n → ops[i]? = some o → L.getD i true = false → (∀ e ∈ o.after, Region.binds .any e = true → L.getD e.on false = true) → (∀ t, n ≤ t → L.getD t false = false) → (∀ j, j < k → L.getD j false = true) → I L a w →
      wpOp P ops Q i (I (L.setIfInBounds i true)) a w)
    (hend : ∀ L a w, (∀ i, i < n → L.getD i false = true) → I L a w → Rest P ops Q n a w) :
    ∀ fuel L a w, Good ops L → L.toList.count false = fuel → (∀ i, i < k → L.getD i false = true) → (∀ t, n ≤ t → L.getD t false = false) → I L a w → wpAny P .any ops Q fuel L a w := by
  have done : ∀ fuel L a w, Good ops L → L.toList.count false = fuel → (∀ t, n ≤ t → L.getD t false = false) → I L a w → (∀ i, i < n → L.getD i false = true) → wpAny P .any ops Q fuel L a w := by
    intro fuel L a w g hc ht hI hall
    have := hend L a w hall hI L g (fun i hi _ => hall i hi) ht
    rwa [← count_rest g (fun i hi _ => hall i hi) ht, hc] at this
  intro fuel
  induction fuel with
  | zero =>
    intro L a w g hc _ ht hI
    refine done 0 L a w g hc ht hI fun i hi => ?_
    have h1 := all_of_count hc i (by simpa [g.size] using (by omega : i < ops.size))
    have hl : i < L.size := by rw [g.size]; omega
    simp [hl] at h1 ⊢
    exact h1
  | succ fuel ih =>
    intro L a w g hc hk ht hI
    by_cases hall : ∀ i, i < n → L.getD i false = true
    · exact done _ L a w g hc ht hI hall
    · have hne : ∃ i, i < n ∧ L.getD i false = false := by
        refine Classical.byContradiction fun hno => hall fun i hi => ?_
        cases hf : L.getD i false with
        | true => rfl
        | false => exact absurd ⟨i, hi, hf⟩ hno
      obtain ⟨i0, hi0, hf0⟩ := hne
      refine ⟨fun h0 => absurd h0 (ready_of_unlisted hB g i0 (by omega) hf0), fun i hi => ?_⟩
      obtain ⟨hu, o, ho, hal⟩ := mem_ready.1 hi
      have hilt : i < ops.size := (Array.getElem?_eq_some_iff.1 ho).1
      have hin : i < n := by
        rcases Nat.lt_or_ge i n with h | h
        · exact h
        · rcases hcut with hcut | hcut
          · omega
          · have := cut_spec hcut g hk (by omega) i o h ho hal i0 hi0
            rw [this] at hf0
            cases hf0
      refine wpOp_mono (fun a' w' h' => ih _ a' w' (g.set ho hal) ?_ (fun j hj => getD_set_true (hk j hj)) (fun t htn => by rw [getD_set_ne false (by omega)]; exact ht t htn) h') (hstep L a w i o g hin ho hu hal ht hk hI)
      have hlt : i < L.size := by rw [g.size]; exact hilt
      have hf : L.toList[i]? = some false := by simp [hlt] at hu ⊢; exact hu
      have := count_set hf
      simp
      omega

theorem good_start : Good ops (Array.replicate ops.size false) :=
  ⟨by simp, fun j oj hj hl => by rw [getD_replicate_false] at hl; cases hl⟩

/-- A region that draws its order. -/
theorem wp_region_rest {id : Nat} {a : Act} {w : World} {l : List Oper} (hm : P.follows .mixedOrders = true) (h : Rest P l.toArray Q 0 a w.drew) : (Code.region id l.toArray true).wp P Q a w :=
  wp_region_any hm (by have := h _ good_start (fun i hi => by omega) (fun i _ => getD_replicate_false _ _); simpa using this)

/-- All is done. -/
theorem rest_end {k : Nat} {a : Act} {w : World} (hk : ops.size ≤ k) (h : Q .normal a w) : Rest P ops Q k a w := by
  intro L g h1 h2
  have h0 : ops.size - k = 0 := by omega
  rw [h0]
  refine ⟨List.eq_nil_iff_forall_not_mem.2 fun i hi => ?_, h⟩
  obtain ⟨hu, o, ho, _⟩ := mem_ready.1 hi
  have hlt := (Array.getElem?_eq_some_iff.1 ho).1
  have := h1 i (by omega) hlt
  rw [getD_both hu] at this
  cases this

/-- the operation at which all that follows waits, and which waits for all ahead -/
def lineB (ops : Array Oper) (k m : Nat) : Bool := (List.range m).all fun i => decide (i < k) || (i + 1 == ops.size) || cutB ops i (i + 1)

/-- where the line ends -/
def thenRest (P : Program) (ops : Array Oper) (Q : Exit → Act → World → Prop) (m : Nat) : Exit → Act → World → Prop
  | .normal, a, w => Rest P ops Q m a w
  | e, a, w => Q e a w

theorem then_rest {m : Nat} {a : Act} {w : World} (h : Rest P ops Q m a w) : thenRest P ops Q m .normal a w := h

theorem lets_then {m : Nat} (h : LetsOut (thenRest P ops Q m)) : LetsOut Q := h

theorem upon_then {m : Nat} {o : Oper} {a : Act} {K : Act → World → Prop} {r : Result Next} (h : o.upon P a K (thenRest P ops Q m) r) : o.upon P a K Q r := by
  cases r with
  | ok x w' =>
    cases x <;> simp only [Oper.upon] at h ⊢
    case value v => exact h
    case skip => exact h
    case defer d => exact h
    case enter f args => exact h.mono fun e w'' he => by cases e <;> exact he
    case row row args => exact h
  | halt x w' => cases x <;> simp only [Oper.upon] at h ⊢; exact h

/-- OPERATIONS IN A LINE: from k up to m they come in their own order. -/
theorem rest_line (k m : Nat) (hB : backB ops = true) (hkm : k ≤ m) (hm : m ≤ ops.size) (hl : lineB ops k m = true) :
    ∀ a w, wpList P ops (thenRest P ops Q m) ((ops.toList.drop k).take (m - k)) a w → Rest P ops Q k a w := by
  obtain ⟨d, rfl⟩ : ∃ d, m = k + d := ⟨m - k, by omega⟩
  clear hkm
  induction d generalizing k with
  | zero =>
    intro a w h
    simp only [Nat.add_zero, Nat.sub_self, List.take_zero, wpList] at h
    exact h
  | succ d ih =>
    intro a w h
    have hklt : k < ops.size := by omega
    have ho : ops[k]? = some ops[k] := Array.getElem?_eq_getElem hklt
    have hd : (ops.toList.drop k).take (k + (d + 1) - k) = ops[k] :: (ops.toList.drop (k + 1)).take (k + 1 + d - (k + 1)) := by
      rw [List.drop_eq_getElem_cons (by simpa using hklt), show k + (d + 1) - k = (k + 1 + d - (k + 1)) + 1 from by omega, List.take_succ_cons]
      simp
    rw [hd] at h
    have hl' : lineB ops (k + 1) (k + 1 + d) = true := by
      simp only [lineB, List.all_eq_true, List.mem_range, Bool.or_eq_true, decide_eq_true_eq] at hl ⊢
      intro i hi
      rcases hl i (by omega) with (h1 | h1) | h1
      · exact .inl (.inl (by omega))
      · exact .inl (.inr h1)
      · exact .inr h1
    have hcut : k + 1 = ops.size ∨ cutB ops k (k + 1) = true := by
      simp only [lineB, List.all_eq_true, List.mem_range, Bool.or_eq_true, decide_eq_true_eq, beq_iff_eq] at hl
      rcases hl k (by omega) with (h1 | h1) | h1
      · omega
      · exact .inl h1
      · exact .inr h1
    have key := fun a w => ih (k + 1) (by omega) (by rw [show k + 1 + d = k + 1 + d from rfl]; exact hl') a w
    rw [show k + (d + 1) = k + 1 + d from by omega] at h
    intro L g h1 h2
    refine wpAny_upto (k := k) (n := k + 1) (fun L' a' w' => (L'.getD k false = false ∧ a' = a ∧ w' = w) ∨ (L'.getD k false = true ∧ Rest P ops Q (k + 1) a' w')) hB (by omega) hcut ?_ ?_ _ L a w g (count_rest g h1 h2)
      (fun i hi => h1 i hi (by omega)) (fun t ht => h2 t (by omega)) (.inl ⟨h2 k (Nat.le_refl _), rfl, rfl⟩)
    · intro L' a' w' i o g' hi hoi hu hal htail hlow hI
      have hik : i = k := by
        rcases Nat.lt_or_ge i k with hlt | hge
        · have := hlow i hlt
          rw [getD_both hu] at this
          cases this
        · omega
      subst hik
      rcases hI with ⟨_, rfl, rfl⟩ | ⟨hk, _⟩
      · have hout : ∀ a1 w1, wpList P ops (thenRest P ops Q (i + 1 + d)) ((ops.toList.drop (i + 1)).take (i + 1 + d - (i + 1))) a1 w1 →
            ((L'.setIfInBounds i true).getD i false = false ∧ a1 = a' ∧ w1 = w') ∨ ((L'.setIfInBounds i true).getD i false = true ∧ Rest P ops Q (i + 1) a1 w1) := fun a1 w1 h' =>
          .inr ⟨by simp [g'.size, hklt], key a1 w1 h'⟩
        refine wpOp_mono hout ?_
        unfold wpOp
        simp only [ho]
        unfold wpList at h
        split
        · rename_i hw
          rw [if_pos hw] at h
          rcases h with h | ⟨h, hl⟩
          · exact .inl (upon_then h)
          · exact .inr ⟨h, lets_then hl⟩
        · rename_i hw
          rw [if_neg hw] at h
          exact h
      · rw [getD_both hu] at hk
        cases hk
    · intro L' a' w' hall hI
      rcases hI with ⟨hk, _, _⟩ | ⟨_, hr⟩
      · rw [hall k (by omega)] at hk; cases hk
      · exact hr

/-! ### Operations in whatever order, from k up to n -/

def dstOf (ops : Array Oper) (i : Nat) : Option Tmp := (ops[i]?).bind (·.dst)

/-- the frame with what operations k, k + 1, .. (so many) leave -/
def putAll (ops : Array Oper) (v : Nat → Value) (k : Nat) : Nat → Act → Act
  | 0, a => a
  | d + 1, a => (putAll ops v k d a).put (dstOf ops (k + d)) (v (k + d))

/-- what an operation waits for itself -/
def preds (ops : Array Oper) (i : Nat) : List Nat := match ops[i]? with
  | none => []
  | some o => (o.after.toList.filter (Region.binds .any)).map (·.on)

theorem preds_listed {L : Array Bool} {i : Nat} {o : Oper} (ho : ops[i]? = some o) (hall : ∀ e ∈ o.after, Region.binds .any e = true → L.getD e.on false = true) : ∀ j ∈ preds ops i, L.getD j false = true := by
  intro j hj
  simp only [preds, ho, List.mem_map, List.mem_filter] at hj
  obtain ⟨e, ⟨he, hb⟩, rfl⟩ := hj
  exact hall e (by simpa using he) hb

/-- operations k up to n write to different slots, none beyond the frame; each slot of theirs that one of them looks at is one's that it waits for -/
def headB (ops : Array Oper) (k n m : Nat) : Bool :=
  ((List.range n).all fun i => decide (i < k) || match dstOf ops i with
    | some d => decide (d < m) && (List.range n).all fun j => decide (j < k) || decide (i = j) || dstOf ops j != some d
    | none => true) &&
  ((List.range n).all fun i => decide (i < k) || match ops[i]? with
    | some o => (o.looksAt ops).all fun t => (List.range n).all fun j => decide (j < k) || dstOf ops j != some t || (preds ops i).contains j
    | none => true) && Region.noSelect ops && decide (n ≤ ops.size) && decide (k ≤ n)

structure HeadOk (ops : Array Oper) (k n m : Nat) : Prop where
  lt : ∀ (i d : Nat), k ≤ i → i < n → dstOf ops i = some d → d < m
  inj : ∀ (i j d : Nat), k ≤ i → i < n → k ≤ j → j < n → dstOf ops i = some d → dstOf ops j = some d → i = j
  sees : ∀ (i : Nat) (o : Oper) (t j : Nat), k ≤ i → i < n → ops[i]? = some o → t ∈ o.looksAt ops → k ≤ j → j < n → dstOf ops j = some t → j ∈ preds ops i
  nosel : ∀ (j : Nat) (o : Oper) cs b, ops[j]? = some o → o.op ≠ .select cs b
  le : n ≤ ops.size
  kn : k ≤ n

theorem headB_spec {k n m : Nat} (h : headB ops k n m = true) : HeadOk ops k n m := by
  simp only [headB, Bool.and_eq_true, List.all_eq_true, List.mem_range, decide_eq_true_eq, Bool.or_eq_true] at h
  obtain ⟨⟨⟨⟨h1, h2⟩, h3⟩, h4⟩, h5⟩ := h
  refine ⟨fun i d hki hi hd => ?_, fun i j d hki hi hkj hj hd hd' => ?_, fun i o t j hki hi ho ht hkj hj hd => ?_, Region.noSelect_spec h3, h4, h5⟩
  · have := (h1 i hi).resolve_left (by omega)
    simp only [hd, Bool.and_eq_true, decide_eq_true_eq] at this
    exact this.1
  · have := (h1 i hi).resolve_left (by omega)
    simp only [hd, Bool.and_eq_true, List.all_eq_true, List.mem_range] at this
    have := this.2 j hj
    have hnk : ¬ j < k := by omega
    simpa [hd', hnk] using this
  · have := (h2 i hi).resolve_left (by omega)
    simp only [ho, List.all_eq_true, List.mem_range] at this
    have := this t ht j hj
    have hnk : ¬ j < k := by omega
    simpa [hd, hnk] using this

theorem putAll_spec {v : Nat → Value} {a : Act} {k n : Nat} (hinj : ∀ (i j d : Nat), k ≤ i → i < n → k ≤ j → j < n → dstOf ops i = some d → dstOf ops j = some d → i = j) : ∀ q, k + q ≤ n →
    (putAll ops v k q a).defers = a.defers ∧ (putAll ops v k q a).tmps.size = a.tmps.size ∧
    (∀ (i d : Nat), k ≤ i → i < k + q → dstOf ops i = some d → d < a.tmps.size → (putAll ops v k q a).tmps[d]? = some (v i)) ∧
    (∀ s, (∀ i, k ≤ i → i < k + q → dstOf ops i ≠ some s) → (putAll ops v k q a).tmps[s]? = a.tmps[s]?) := by
  intro q
  induction q with
  | zero => intro _; exact ⟨rfl, rfl, fun i d hk hi => by omega, fun s _ => rfl⟩
  | succ q ih =>
    intro hq
    obtain ⟨h1, h2, h3, h4⟩ := ih (by omega)
    unfold putAll
    cases hd : dstOf ops (k + q) with
    | none =>
      refine ⟨h1, h2, fun i d hki hi hdi hlt => ?_, fun s hs => h4 s fun i hki hi => hs i hki (by omega)⟩
      by_cases hik : i = k + q
      · subst hik; rw [hd] at hdi; cases hdi
      · exact h3 i d hki (by omega) hdi hlt
    | some dk =>
      refine ⟨h1, by simp [Act.put, h2], fun i d hki hi hdi hlt => ?_, fun s hs => ?_⟩
      · by_cases hik : i = k + q
        · subst hik
          obtain rfl : dk = d := by rw [hd] at hdi; exact Option.some.inj hdi
          simp [Act.put, h2, hlt]
        · have hne : dk ≠ d := fun e => hik (hinj i (k + q) d hki (by omega) (by omega) (by omega) hdi (e ▸ hd))
          simp only [Act.put, Array.getElem?_setIfInBounds_ne hne]
          exact h3 i d hki (by omega) hdi hlt
      · have hne : dk ≠ s := fun e => hs (k + q) (by omega) (by omega) (e ▸ hd)
        simp only [Act.put, Array.getElem?_setIfInBounds_ne hne]
        exact h4 s fun i hki hi => hs i hki (by omega)

/-- Only the ordinary end. -/
def only (K : Act → World → Prop) : Exit → Act → World → Prop
  | .normal, a, w => K a w
  | _, _, _ => False

/-- What an operation leaves: nothing that was there has turned; its value. -/
def Left_ (dst : Option Tmp) (ds : List Deferred) (w : World) (S : Value → World → Prop) (K : Value → Option Nat) (a' : Act) (w' : World) : Prop :=
  a'.defers = ds ∧ Below w.heap.size w w' ∧ S (match dst with | some d => a'.tmps.getD d undef | none => undef) w' ∧
    (∀ b, K (match dst with | some d => a'.tmps.getD d undef | none => undef) = some b → w.heap.size ≤ b ∧ b < w'.heap.size)

structure HI (ops : Array Oper) (k n : Nat) (S : Nat → Value → World → Prop) (F : Nat → Value → Option Nat) (a0 : Act) (w0 : World) (L : Array Bool) (a : Act) (w : World) (v : Nat → Value) : Prop where
  defers : a.defers = a0.defers
  size : a.tmps.size = a0.tmps.size
  grow : Below w0.heap.size w0 w
  slots : ∀ (i d : Nat), k ≤ i → i < n → L.getD i false = true → dstOf ops i = some d → a.tmps[d]? = some (v i)
  others : ∀ s, (∀ i, k ≤ i → i < n → L.getD i false = true → dstOf ops i ≠ some s) → a.tmps[s]? = a0.tmps[s]?
  holds : ∀ i, k ≤ i → i < n → L.getD i false = true → S i (v i) w
  fresh : ∀ i, k ≤ i → i < n → L.getD i false = true → ∀ b, F i (v i) = some b → b < w.heap.size
  apart : ∀ i j, k ≤ i → i < n → k ≤ j → j < n → L.getD i false = true → L.getD j false = true → i ≠ j → ∀ b, F i (v i) = some b → F j (v j) ≠ some b

theorem getD_eq_of {a a' : Act} {t : Tmp} (h : a.tmps[t]? = a'.tmps[t]?) : a.eval (.tmp t) = a'.eval (.tmp t) := by
  simp [Act.eval, h]

theorem only_upon {o : Oper} {a a1 : Act} {K K' : Act → World → Prop} {r : Result Next} (hdef : ∀ a' w', K a' w' → a'.defers = a1.defers)
    (hk : ∀ v w', K (a1.put o.dst v) w' → K' (a.put o.dst v) w') (h : o.upon P a1 K (only K) r) : o.upon P a K' Q r := by
  have no : ¬ LetsOut (only K) := fun ⟨_, _, h⟩ => h
  cases r with
  | ok x w' =>
    cases x <;> simp only [Oper.upon] at h ⊢
    case value v => exact hk v w' h
    case skip => exact hk _ w' h
    case defer d =>
      have := congrArg List.length (hdef _ _ h)
      exfalso
      cases hd : o.dst <;> simp [Act.put, hd] at this
    case enter f args =>
      refine h.mono fun e w'' he => ?_
      cases e with
      | returned v => exact hk v w'' he
      | panicked c => exact he.elim
      | outgrown => exact (no he).elim
    case row row args => exact Rows.mono h fun v w'' he => hk v w'' he
  | halt x w' =>
    cases x <;> simp only [Oper.upon] at h ⊢
    case panic v => exact h.elim

theorem wpOp_of_only {i : Nat} {o : Oper} {a a1 : Act} {K K' : Act → World → Prop} {w : World} (ho : ops[i]? = some o) (hdef : ∀ a' w', K a' w' → a'.defers = a1.defers)
    (hex : execOp a1.eval o = execOp a.eval o) (hwa : Region.wanted o (yielded ops a1.tmps) = Region.wanted o (yielded ops a.tmps))
    (hk : ∀ v w', K (a1.put o.dst v) w' → K' (a.put o.dst v) w') (h : wpList P ops (only K) [o] a1 w) : wpOp P ops Q i K' a w := by
  have no : ¬ LetsOut (only K) := fun ⟨_, _, h⟩ => h
  unfold wpOp
  simp only [ho]
  unfold wpList at h
  rw [hwa] at h
  split
  · rename_i hw
    rw [if_pos hw] at h
    rcases h with h | ⟨_, h⟩
    · refine .inl ?_
      unfold Oper.wp at h ⊢
      rw [hex] at h
      exact only_upon (K := K) hdef hk h
    · exact (no h).elim
  · rename_i hw
    rw [if_neg hw] at h
    exact hk _ _ h

/-- IN WHATEVER ORDER: each operation from k up to n meets what those that it waits for have left. 'v': what they leave in their slots. -/
theorem rest_par (k n m : Nat) (S : Nat → Value → World → Prop) (F : Nat → Value → Option Nat) {a0 : Act} {w0 : World} (hB : backB ops = true)
    (hH : headB ops k n m = true) (hsz : a0.tmps.size = m) (hcut : n = ops.size ∨ cutB ops k n = true)
    (hS : ∀ i v w w', k ≤ i → i < n → S i v w → Below w.heap.size w w' → S i v w')
    (hop : ∀ i o, k ≤ i → i < n → ops[i]? = some o → ∀ (v : Nat → Value) w, Below w0.heap.size w0 w → (∀ j, (preds ops i).contains j = true → k ≤ j → j < n → S j (v j) w) →
      wpList P ops (only (Left_ o.dst a0.defers w (S i) (F i))) [o] (putAll ops v k (n - k) a0) w)
    (hend : ∀ (v : Nat → Value) w, Below w0.heap.size w0 w → (∀ i, k ≤ i → i < n → S i (v i) w) → (∀ i j, k ≤ i → i < n → k ≤ j → j < n → i ≠ j → ∀ b, F i (v i) = some b → F j (v j) ≠ some b) →
      Rest P ops Q n (putAll ops v k (n - k) a0) w) : Rest P ops Q k a0 w0 := by
  have H := headB_spec hH
  have hkn := H.kn
  intro L0 g0 h10 h20
  refine wpAny_upto (k := k) (n := n) (fun L a w => ∃ v, HI ops k n S F a0 w0 L a w v) hB H.le hcut ?_ ?_ _ L0 a0 w0 g0 (count_rest g0 h10 h20) (fun i hi => h10 i hi (by have := H.le; omega)) (fun t ht => h20 t (by omega)) ?_
  · intro L a w i o g hin ho hu hall htail hlow ⟨v, h⟩
    have hki : k ≤ i := by
      rcases Nat.lt_or_ge i k with hlt | hge
      · have := hlow i hlt
        rw [getD_both hu] at this
        cases this
      · exact hge
    have hilt : i < ops.size := (Array.getElem?_eq_some_iff.1 ho).1
    have hp : ∀ j ∈ preds ops i, L.getD j false = true := preds_listed ho hall
    let v' : Nat → Value := fun j => if L.getD j false then v j else undef
    have hv' : ∀ j, L.getD j false = true → v' j = v j := fun j hj => by simp only [v', hj, if_true]
    obtain ⟨q1, q2, q3, q4⟩ := putAll_spec (ops := ops) (v := v') (a := a0) H.inj (n - k) (by omega)
    rw [show k + (n - k) = n from by omega] at q3 q4
    have hlook : ∀ t ∈ o.looksAt ops, (putAll ops v' k (n - k) a0).tmps[t]? = a.tmps[t]? := by
      intro (t : Nat) ht
      by_cases hs : ∃ j, k ≤ j ∧ j < n ∧ dstOf ops j = some t
      · obtain ⟨j, hkj, hj, hd⟩ := hs
        have hjl := hp j (H.sees i o t j hki hin ho ht hkj hj hd)
        rw [q3 j t hkj hj hd (by have := H.lt j t hkj hj hd; rw [hsz]; exact this), h.slots j t hkj hj hjl hd, hv' j hjl]
      · rw [q4 t fun j hkj hj hd => hs ⟨j, hkj, hj, hd⟩]
        exact (h.others t fun j hkj hj _ hd => hs ⟨j, hkj, hj, hd⟩).symm
    have hlk := hop i o hki hin ho v' w h.grow (fun j hj hkj hjn => by have hj' := hp j (by simpa using hj); rw [hv' j hj']; exact h.holds j hkj hjn hj')
    refine wpOp_of_only ho (K := Left_ o.dst a0.defers w (S i) (F i)) (fun a' w' hk => hk.1.trans q1.symm) ?_ ?_ ?_ hlk
    · refine execOp_congr o (fun cs b => H.nosel i o cs b ho) fun x hx => ?_
      cases x with
      | tmp t => exact getD_eq_of (hlook t (List.mem_append_left _ (List.mem_filterMap.2 ⟨.tmp t, by simpa using hx, rfl⟩)))
      | _ => rfl
    · unfold Region.wanted
      cases hg : o.guard with
      | none => rfl
      | some gw =>
        obtain ⟨gj, want⟩ := gw
        have : yielded ops (putAll ops v' k (n - k) a0).tmps gj = yielded ops a.tmps gj := by
          unfold yielded
          cases ht : (ops[gj]?).bind (·.dst) with
          | none => rfl
          | some t => simp only [Option.bind_some, hlook t (by simp [Oper.looksAt, hg, ht])]
        simp only [this]
    · intro u w' hk
      obtain ⟨hkd, hkg, hks, hkf⟩ := hk
      have hval : ∀ d : Nat, o.dst = some d → ((putAll ops v' k (n - k) a0).put o.dst u).tmps.getD d undef = u := fun d hd => by
        have hd' : dstOf ops i = some d := by simp [dstOf, ho, hd]
        have hlt := H.lt i d hki hin hd'
        have : d < (putAll ops v' k (n - k) a0).tmps.size := by rw [q2, hsz]; exact hlt
        simp [hd, Act.put, this]
      let u' : Value := match o.dst with | some _ => u | none => undef
      have hu' : (match o.dst with | some d => ((putAll ops v' k (n - k) a0).put o.dst u).tmps.getD d undef | none => undef) = u' := by
        cases hd : o.dst with
        | none => simp only [u', hd]
        | some d => have := hval d hd; rw [hd] at this; simp only [u', hd]; exact this
      rw [hu'] at hks hkf
      have hLn : ∀ j, j ≠ i → (L.setIfInBounds i true).getD j false = L.getD j false := fun j hj => getD_set_ne false (Ne.symm hj)
      refine ⟨fun j => if j = i then u' else v j, ?_, ?_, ?_, ?_, ?_, ?_, ?_, ?_⟩
      · cases hd : o.dst <;> simp [Act.put, h.defers]
      · cases hd : o.dst <;> simp [Act.put, h.size]
      · exact h.grow.trans (hkg.mono h.grow.size)
      · intro j d hkj hj hjl hd
        by_cases hji : j = i
        · subst hji
          have hd' : o.dst = some d := by simpa [dstOf, ho] using hd
          have hlt := H.lt j d hkj hj hd
          have : d < a.tmps.size := by rw [h.size, hsz]; exact hlt
          simp [hd', Act.put, this, u']
        · rw [hLn j hji] at hjl
          have h0 := h.slots j d hkj hj hjl hd
          cases hdo : o.dst with
          | none => simp [Act.put, hji, h0]
          | some d' =>
            have hne : d' ≠ d := fun e => hji (H.inj j i d hkj hj hki hin hd (by simp [dstOf, ho, hdo, e]))
            simp [Act.put, hji, Array.getElem?_setIfInBounds_ne hne, h0]
      · intro s hs
        have h0 := h.others s fun j hkj hj hjl hd => by
          by_cases hji : j = i
          · subst hji
            rw [getD_both hu] at hjl
            cases hjl
          · exact hs j hkj hj (by rw [hLn j hji]; exact hjl) hd
        cases hdo : o.dst with
        | none => simpa [Act.put] using h0
        | some d' =>
          have hne : d' ≠ s := fun e => hs i hki hin (by simp [g.size, hilt]) (by simp [dstOf, ho, hdo, e])
          simpa [Act.put, Array.getElem?_setIfInBounds_ne hne] using h0
      · intro j hkj hj hjl
        by_cases hji : j = i
        · subst hji; simpa using hks
        · rw [hLn j hji] at hjl
          simpa [hji] using hS j _ _ _ hkj hj (h.holds j hkj hj hjl) hkg
      · intro j hkj hj hjl b hb
        by_cases hji : j = i
        · subst hji
          exact (hkf b (by simpa using hb)).2
        · rw [hLn j hji] at hjl
          have := h.fresh j hkj hj hjl b (by simpa [hji] using hb)
          have := hkg.size
          omega
      · intro j q hkj hj hkq hq hjl hql hne b hb
        by_cases hji : j = i
        · subst hji
          have hqi : q ≠ j := Ne.symm hne
          rw [hLn q hqi] at hql
          have h1 := (hkf b (by simpa using hb)).1
          intro e
          have h2 := h.fresh q hkq hq hql b (by simpa [hqi] using e)
          omega
        · rw [hLn j hji] at hjl
          by_cases hqi : q = i
          · subst hqi
            have h2 := h.fresh j hkj hj hjl b (by simpa [hji] using hb)
            intro e
            have h1 := (hkf b (by simpa using e)).1
            omega
          · rw [hLn q hqi] at hql
            have := h.apart j q hkj hj hkq hq hjl hql hne b (by simpa [hji] using hb)
            simpa [hqi] using this
  · intro L a w hall ⟨v, h⟩
    obtain ⟨q1, q2, q3, q4⟩ := putAll_spec (ops := ops) (v := v) (a := a0) H.inj (n - k) (by omega)
    rw [show k + (n - k) = n from by omega] at q3 q4
    have : a = putAll ops v k (n - k) a0 := by
      obtain ⟨t, d⟩ := a
      generalize hp : putAll ops v k (n - k) a0 = b at *
      obtain ⟨t', d'⟩ := b
      have e1 : d = d' := h.defers.trans q1.symm
      have e2 : t = t' := by
        apply Array.ext_getElem?
        intro (s : Nat)
        by_cases hs : ∃ i, k ≤ i ∧ i < n ∧ dstOf ops i = some s
        · obtain ⟨i, hki, hi, hd⟩ := hs
          have hl := H.lt i s hki hi hd
          exact (h.slots i s hki hi (hall i hi) hd).trans (q3 i s hki hi hd (hsz ▸ hl)).symm
        · exact (h.others s fun i hki hi _ hd => hs ⟨i, hki, hi, hd⟩).trans (q4 s fun i hki hi hd => hs ⟨i, hki, hi, hd⟩).symm
      rw [e1, e2]
    rw [this]
    exact hend v w h.grow (fun i hki hi => h.holds i hki hi (hall i hi)) (fun i j hki hi hkj hj => h.apart i j hki hi hkj hj (hall i hi) (hall j hj))
  · have hno : ∀ i, k ≤ i → L0.getD i false = true → False := fun i hki hl => by rw [h20 i hki] at hl; cases hl
    exact ⟨fun _ => undef, rfl, rfl, Below.refl _ _, fun i d hki _ hl => (hno i hki hl).elim, fun _ _ => rfl, fun i hki _ hl => (hno i hki hl).elim, fun i hki _ hl => (hno i hki hl).elim, fun i j hki _ _ _ hl => (hno i hki hl).elim⟩

/-- What is to be shown of each operation, one behind the other. -/
def Hops (P : Program) (ops : Array Oper) (k n : Nat) (S : Nat → Value → World → Prop) (F : Nat → Value → Option Nat) (a0 : Act) (w0 : World) : Nat → List Oper → Prop
  | _, [] => True
  | i, o :: rest => (∀ (v : Nat → Value) (w : World), Below w0.heap.size w0 w → (∀ j, (preds ops i).contains j = true → k ≤ j → j < n → S j (v j) w) →
      ∀ Q' : Exit → Act → World → Prop, (∀ a' w', Left_ o.dst a0.defers w (S i) (F i) a' w' → Q' .normal a' w') → wpList P ops Q' [o] (putAll ops v k (n - k) a0) w) ∧ Hops P ops k n S F a0 w0 (i + 1) rest

theorem hops_get {k n : Nat} {S : Nat → Value → World → Prop} {F : Nat → Value → Option Nat} {a0 : Act} {w0 : World} : ∀ (l : List Oper) (q : Nat), Hops P ops k n S F a0 w0 q l → ∀ i o, l[i]? = some o →
    ∀ (v : Nat → Value) w, Below w0.heap.size w0 w → (∀ j, (preds ops (q + i)).contains j = true → k ≤ j → j < n → S j (v j) w) →
      ∀ Q' : Exit → Act → World → Prop, (∀ a' w', Left_ o.dst a0.defers w (S (q + i)) (F (q + i)) a' w' → Q' .normal a' w') → wpList P ops Q' [o] (putAll ops v k (n - k) a0) w
  | [], _, _, i, o, hi => by simp at hi
  | x :: l, q, h, 0, o, hi => by
    obtain rfl : x = o := by simpa using hi
    exact h.1
  | x :: l, q, h, i + 1, o, hi => by
    have := hops_get l (q + 1) h.2 i o (by simpa using hi)
    rw [show q + 1 + i = q + (i + 1) from by omega] at this
    exact this

/-- The same, the operations one behind the other, what they leave said of each. -/
theorem rest_ops (k n m : Nat) (S : Nat → Value → World → Prop) (F : Nat → Value → Option Nat) {a0 : Act} {w0 : World} {l : List Oper} (hB : backB l.toArray = true)
    (hH : headB l.toArray k n m = true) (hsz : a0.tmps.size = m) (hcut : n = l.toArray.size ∨ cutB l.toArray k n = true)
    (hS : ∀ i v w w', k ≤ i → i < n → S i v w → Below w.heap.size w w' → S i v w')
    (hop : Hops P l.toArray k n S F a0 w0 k ((l.drop k).take (n - k)))
    (hend : ∀ (v : Nat → Value) w, Below w0.heap.size w0 w → (∀ i, k ≤ i → i < n → S i (v i) w) → (∀ i j, k ≤ i → i < n → k ≤ j → j < n → i ≠ j → ∀ b, F i (v i) = some b → F j (v j) ≠ some b) →
      Rest P l.toArray Q n (putAll l.toArray v k (n - k) a0) w) : Rest P l.toArray Q k a0 w0 := by
  refine rest_par k n m S F hB hH hsz hcut hS (fun i o hki hi ho v w hb hs => ?_) hend
  have := hops_get _ k hop (i - k) o (by rw [List.getElem?_take, List.getElem?_drop, if_pos (by omega), show k + (i - k) = i from by omega]; simpa using ho) v w hb
  rw [show k + (i - k) = i from by omega] at this
  exact this (fun j hj => hs j (by simpa using hj)) _ fun a' w' h => h

theorem rest_line' (k m : Nat) {l : List Oper} (hB : backB l.toArray = true) (hkm : k ≤ m) (hm : m ≤ l.length) (hl : lineB l.toArray k m = true) {a : Act} {w : World}
    (h : wpList P l.toArray (thenRest P l.toArray Q m) ((l.drop k).take (m - k)) a w) : Rest P l.toArray Q k a w :=
  rest_line k m hB hkm (by simpa using hm) hl a w (by simpa using h)

/-- the same, the operations written out -/
theorem rest_lineL (k m : Nat) {l : List Oper} (ls : List Oper) (hls : (l.drop k).take (m - k) = ls) (hB : backB l.toArray = true) (hkm : k ≤ m) (hm : m ≤ l.length) (hl : lineB l.toArray k m = true) {a : Act} {w : World}
    (h : wpList P l.toArray (thenRest P l.toArray Q m) ls a w) : Rest P l.toArray Q k a w := by
  subst hls
  exact rest_line' k m hB hkm hm hl h
/-- the block that a pointer leads to -/
def ptrBlk : Value → Option Nat
  | .pointer (some a) => some a.block
  | _ => none

/-- A new variable: a block of the region's own. -/
def NewVar (B : Nat) (cs : Array Value) (T : TypeId) (v : Value) (u : World) : Prop := ∃ b, v = .pointer (some ⟨b, 0, none⟩) ∧ B ≤ b ∧ u.heap[b]? = some (.cells cs T (0, 0))

theorem NewVar.below {B : Nat} {cs : Array Value} {T : TypeId} {v : Value} {u u' : World} (h : NewVar B cs T v u) (hb : Below u.heap.size u u') : NewVar B cs T v u' := by
  obtain ⟨b, h1, h2, h3⟩ := h
  exact ⟨b, h1, h2, (hb.block b (Array.getElem?_eq_some_iff.1 h3).1).trans h3⟩

theorem NewVar.made {dst : Nat} {ds : List Deferred} {a' : Act} {cs : Array Value} {T : TypeId} {w0 u : World} (hu : Below w0.heap.size w0 u) (hd : a'.defers = ds) (hv : a'.tmps.getD dst undef = .pointer (some ⟨u.heap.size, 0, none⟩)) :
    Left_ (some dst) ds u (fun v u => NewVar w0.heap.size cs T v u) ptrBlk a' (u.alloc (.cells cs T)) :=
  ⟨hd, (Below.refl _ _).alloc (Nat.le_refl _) _, ⟨u.heap.size, hv, hu.size, heap_alloc_new u _⟩, fun b hb => by
    simp only [] at hb
    rw [hv] at hb
    obtain rfl : u.heap.size = b := Option.some.inj hb
    exact ⟨Nat.le_refl _, by simp⟩⟩

end
end Go.Proofs.YtkhchmgdaolojaaDoor.Reg
