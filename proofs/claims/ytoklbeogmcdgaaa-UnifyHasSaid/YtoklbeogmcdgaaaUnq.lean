
/-
  UnifySafe, plain: what Safely unifies, Unify does; what is put has an end, and Safely leaves it one.
-/
import Derived.Test.YtoklbeogmcdgaaaUns
namespace Go.Proofs.Ytoklbeogmcdgaaa.Tms
open Go Go.RowKit Go.Proofs.Ytoklbeogmcdgaaa.Reg Go.Proofs.Ytoklbeogmcdgaaa.Rws Go.Proofs.Ytoklbeogmcdgaaa.Maps
set_option linter.unusedVariables false
set_option linter.unusedSimpArgs false

theorem one_safe {S : Sto} {k a b : Nat} (h : (oneP S true k a b).1.1 = some true) (k2 : Nat) : oneP S false k2 a b = ((some true, (oneP S true k a b).1.2.1, k2), (oneP S true k a b).2) := by
  have hb : ∀ v t tk, (bindP S true k v t tk).1 = some true → bindP S false k2 v t tk = (some true, (bindP S true k v t tk).2.1, k2) := by
    intro v t tk h
    have e : bindP S false k2 v t tk = (some true, bindS S v t, k2) := by unfold bindP; rw [if_neg (by simp)]
    rw [e]
    unfold bindP at h ⊢
    split
    · rename_i hc
      rw [if_pos hc] at h
      split
      · rename_i e1; rw [e1] at h; simp at h
      · rename_i e1; rw [e1] at h; simp at h
      · rfl
    · rfl
  unfold oneP at h ⊢
  split
  · rfl
  rename_i h1
  rw [if_neg h1] at h
  split
  · rename_i h2
    rw [if_pos h2] at h
    rw [hb _ _ _ h]
  rename_i h2
  rw [if_neg h2] at h
  split
  · rename_i h3
    rw [if_pos h3] at h
    rw [hb _ _ _ h]
  rename_i h3
  rw [if_neg h3] at h
  split
  · rename_i h4
    rw [if_pos h4] at h
    simp at h
  · rfl
theorem uni_safe : ∀ (f k k2 : Nat) (S : Sto) (l : List (Nat × Nat)), k ≤ k2 → (uniP true f k S l).1 = some true → (uniP false f k2 S l).1 = some true ∧ (uniP false f k2 S l).2.1 = (uniP true f k S l).2.1
  | 0, k, k2, S, l, hk, h => by
    unfold uniP at h ⊢
    split at h
    · rename_i e; rw [if_pos e, if_pos e]; exact ⟨rfl, rfl⟩
    · simp at h
  | f + 1, k, k2, S, [], hk, h => ⟨rfl, rfl⟩
  | f + 1, k, k2, S, p :: l, hk, h => by
    unfold uniP at h ⊢
    dsimp only at h ⊢
    split at h
    · simp at h
    rename_i hk0
    rw [if_neg hk0, if_neg (by omega)]
    have hle := oneP_le S true (k - 1) p.1 p.2
    have hone := one_safe (S := S) (k := k - 1) (a := p.1) (b := p.2)
    generalize oneP S true (k - 1) p.1 p.2 = r at *
    obtain ⟨⟨o, S', k'⟩, more⟩ := r
    dsimp only at h hle hone ⊢
    cases o with
    | none => simp at h
    | some o =>
      cases o with
      | false => simp at h
      | true =>
        rw [hone rfl (k2 - 1)]
        exact uni_safe f k' (k2 - 1) S' (more ++ l) (by omega) h
theorem safe_uni {S : Sto} {a b : Nat} (h : uniR S true a b = some true) : uniR S false a b = some true ∧ uniW S false a b = uniW S true a b := by
  obtain ⟨h1, h2⟩ := uni_safe 20000 20000 20000 S [(a, b)] (Nat.le_refl _) h
  have h1' : uniR S false a b = some true := h1
  refine ⟨h1', ?_⟩
  unfold uniW
  rw [if_pos h, if_pos h1']
  exact h2
/-! ### Cells that have an end -/
def Ends (S : Sto) (x : Nat) : Prop := ∃ f h, hgtF S f x = some h
theorem Ends.mk' {S : Sto} {x : Nat} (h : ∀ a ∈ (cellF S x).args, Ends S a.toNat) : Ends S x := by
  have key : ∀ l : List Int, (∀ a ∈ l, Ends S a.toNat) → ∀ m, ∃ f h, ∀ f', f ≤ f' → l.foldl (hStep (hgtF S f')) (some m) = some h := by
    intro l
    induction l with
    | nil => intro _ m; exact ⟨0, m, fun _ _ => rfl⟩
    | cons a l ih =>
      intro hl m
      obtain ⟨f1, h1, e1⟩ := hl a (List.mem_cons_self ..)
      obtain ⟨f2, h2, e2⟩ := ih (fun b hb => hl b (List.mem_cons_of_mem _ hb)) (max m h1)
      refine ⟨max f1 f2, h2, fun f' hf' => ?_⟩
      have hle := (hgt_le S f1 _ h1 e1).2
      rw [List.foldl_cons, show hStep (hgtF S f') (some m) a = some (max m h1) by simp [hStep, hgt_at S f1 _ h1 f' e1 (by omega)]]
      exact e2 f' (by omega)
  obtain ⟨f, h, e⟩ := key _ h 0
  exact ⟨f + 1, h + 1, by simp only [hgtF, e f (Nat.le_refl _)]; rfl⟩
theorem Ends.arg {S : Sto} {x : Nat} (h : Ends S x) : ∀ a ∈ (cellF S x).args, Ends S a.toNat := by
  obtain ⟨f, n, e⟩ := h
  cases f with
  | zero => simp [hgtF] at e
  | succ f =>
    simp only [hgtF, Option.map_eq_some_iff] at e
    obtain ⟨m, hm, -⟩ := e
    intro a ha
    obtain ⟨k, hk, -⟩ := (hfold_some hm).2 a ha
    exact ⟨f, k, hk⟩
theorem Ends.fol {S : Sto} {x y : Nat} (h : Ends S x) (e : Tms.fol S x = Tms.fol S y) : Ends S y := by
  have : cellF S x = cellF S y := by unfold cellF; rw [e]
  exact Ends.mk' (by rw [← this]; exact h.arg)
/-- by what is below: a way to go over all that has an end -/
theorem Ends.rec' {S : Sto} {Q : Nat → Prop} (hQ : ∀ x, Ends S x → (∀ a ∈ (cellF S x).args, Q a.toNat) → Q x) : ∀ x, Ends S x → Q x := by
  have key : ∀ f x h, hgtF S f x = some h → Q x := by
    intro f
    induction f with
    | zero => intro x h e; simp [hgtF] at e
    | succ f ih =>
      intro x h e
      refine hQ x ⟨_, _, e⟩ fun a ha => ?_
      simp only [hgtF, Option.map_eq_some_iff] at e
      obtain ⟨m, hm, -⟩ := e
      obtain ⟨k, hk, -⟩ := (hfold_some hm).2 a ha
      exact ih _ k hk
  rintro x ⟨f, h, e⟩
  exact key f x h e
/-- v is in no part, however deep -/
def Avd (S : Sto) (v : Nat) : Nat → Nat → Prop
  | 0, _ => True
  | f + 1, x => fol S x ≠ v ∧ ∀ a ∈ (cellF S x).args, Avd S v f a.toNat
theorem hasP_avd {S : Sto} {v : Nat} : ∀ (k : Nat) (l : List Nat), (hasP S v k l).1 = some false → ∀ x ∈ l, ∀ f, Avd S v f x
  | 0, l, h, x, hx, f => by
    unfold hasP at h
    split at h
    · rename_i e; rw [e] at hx; cases hx
    · simp at h
  | k + 1, [], h, x, hx, f => by cases hx
  | k + 1, c :: l, h, x, hx, f => by
    unfold hasP at h
    dsimp only at h
    split at h
    · simp at h
    · rename_i hne
      have ih := hasP_avd k _ h
      rcases List.mem_cons.1 hx with rfl | hx
      · cases f with
        | zero => trivial
        | succ f => exact ⟨hne, fun a ha => ih a.toNat (List.mem_append_left _ (List.mem_map.2 ⟨a, ha, rfl⟩)) f⟩
      · exact ih x (List.mem_append_right _ hx) f
section
variable {S : Sto} (hS : Inv S) {v t : Nat} (hv : v < S.cells.length) (ht : t < S.cells.length) (hvl : (S.cells[v]).lk = -1) (htl : (S.cells[t]).lk = -1) (hk : (S.cells[v]).k = 1) (hne : v ≠ t)
set_option linter.unusedSectionVars false
include hS hv ht hvl htl hk hne
theorem bind_cellF {x : Nat} (hx : x < S.cells.length) (h : fol S x ≠ v) : fol (bindS S v t) x = fol S x ∧ cellF (bindS S v t) x = cellF S x := by
  have e := fol_bind hS hv ht hvl htl hne hx
  rw [if_neg h] at e
  refine ⟨e, ?_⟩
  unfold cellF
  rw [e, bind_get hv, if_neg (Ne.symm h)]
/-- what doesn't have v keeps its end -/
theorem Ends.keep {x : Nat} (hf : Ends S x) : x < S.cells.length → (∀ f, Avd S v f x) → Ends (bindS S v t) x := by
  refine Ends.rec' (S := S) (Q := fun x => x < S.cells.length → (∀ f, Avd S v f x) → Ends (bindS S v t) x) (fun x _ ih hx ha => ?_) x hf
  have h1 := (ha 1).1
  obtain ⟨e1, e2⟩ := bind_cellF hS hv ht hvl htl hk hne hx h1
  refine Ends.mk' fun a haa => ?_
  rw [e2] at haa
  have hlt : a.toNat < S.cells.length := argN_mem hS hx (List.mem_map.2 ⟨a, haa, rfl⟩)
  exact ih a haa hlt fun f => (ha (f + 1)).2 a haa
/-- bound to what has an end and doesn't have it: all that had an end have one -/
theorem Ends.bind (htf : Ends S t) (hta : ∀ f, Avd S v f t) {x : Nat} (hf : Ends S x) : x < S.cells.length → Ends (bindS S v t) x := by
  have ht' := Ends.keep hS hv ht hvl htl hk hne htf ht hta
  refine Ends.rec' (S := S) (Q := fun x => x < S.cells.length → Ends (bindS S v t) x) (fun x _ ih hx => ?_) x hf
  by_cases e : Tms.fol S x = v
  · refine ht'.fol ?_
    rw [fol_bind hS hv ht hvl htl hne hx, if_pos e, fol_bind hS hv ht hvl htl hne ht]
    have : Tms.fol S t = t := fol_root (List.getElem?_eq_getElem ht) htl
    rw [this, if_neg (Ne.symm hne)]
  · obtain ⟨e1, e2⟩ := bind_cellF hS hv ht hvl htl hk hne hx e
    refine Ends.mk' fun a haa => ?_
    rw [e2] at haa
    exact ih a haa (argN_mem hS hx (List.mem_map.2 ⟨a, haa, rfl⟩))
end
theorem avd_var {S : Sto} (hS : Inv S) {v t : Nat} (ht : t < S.cells.length) (htl : (S.cells[t]).lk = -1) (htk : (S.cells[t]).k = 1) (hne : v ≠ t) : ∀ f, Avd S v f t := by
  intro f
  have e : fol S t = t := fol_root (List.getElem?_eq_getElem ht) htl
  cases f with
  | zero => trivial
  | succ f =>
    refine ⟨by rw [e]; exact Ne.symm hne, fun a ha => ?_⟩
    have hc : cellF S t = S.cells[t] := by unfold cellF; rw [e, List.getElem?_eq_getElem ht]; rfl
    rw [hc, (hS.cell t _ (List.getElem?_eq_getElem ht)).var htk] at ha
    cases ha
/-- Safely binds nothing to what has it -/
theorem bindP_fin {S : Sto} (hS : Inv S) {k v t : Nat} (hv : v < S.cells.length) (ht : t < S.cells.length) (hvl : (S.cells[v]).lk = -1) (htl : (S.cells[t]).lk = -1) (hk : (S.cells[v]).k = 1) (hne : v ≠ t) (h : (bindP S true k v t (S.cells[t]).k).1 = some true) (htf : Ends S t) : ∀ x, x < S.cells.length → Ends S x → Ends (bindP S true k v t (S.cells[t]).k).2.1 x := by
  intro x hx hf
  unfold bindP at h ⊢
  split
  · rename_i hc
    rw [if_pos hc] at h
    split
    · exact hf
    · exact hf
    · rename_i e1
      exact Ends.bind hS hv ht hvl htl hk hne htf (hasP_avd k [t] e1 t (List.mem_singleton.2 rfl)) hf hx
  · rename_i hc
    have htk : (S.cells[t]).k = 1 := Classical.byContradiction fun e => hc ⟨rfl, e⟩
    exact Ends.bind hS hv ht hvl htl hk hne htf (avd_var hS ht htl htk hne) hf hx
theorem oneP_fin {S : Sto} (hS : Inv S) {k a b : Nat} (ha : a < S.cells.length) (hb : b < S.cells.length) (h : (oneP S true k a b).1.1 = some true) (hfa : Ends S a) (hfb : Ends S b) :
    (∀ x, x < S.cells.length → Ends S x → Ends (oneP S true k a b).1.2.1 x) ∧ ∀ p ∈ (oneP S true k a b).2, Ends S p.1 ∧ Ends S p.2 := by
  obtain ⟨la, ea, fa⟩ := hS.root ha
  obtain ⟨lb, eb, fb⟩ := hS.root hb
  have fra : Ends S (fol S a) := hfa.fol (hS.fol_fol ha).symm
  have frb : Ends S (fol S b) := hfb.fol (hS.fol_fol hb).symm
  unfold oneP at h ⊢
  split
  · exact ⟨fun x _ hf => hf, fun p hp => by cases hp⟩
  rename_i h1
  rw [if_neg h1] at h
  split
  · rename_i h2
    rw [if_pos h2] at h
    rw [← eb] at h ⊢
    exact ⟨bindP_fin hS la lb fa fb (by rw [ea]; exact h2) h1 h frb, fun p hp => by cases hp⟩
  rename_i h2
  rw [if_neg h2] at h
  split
  · rename_i h3
    rw [if_pos h3] at h
    rw [← ea] at h ⊢
    exact ⟨bindP_fin hS lb la fb fa (by rw [eb]; exact h3) (Ne.symm h1) h fra, fun p hp => by cases hp⟩
  split
  · exact ⟨fun x _ hf => hf, fun p hp => by cases hp⟩
  · refine ⟨fun x _ hf => hf, fun p hp => ?_⟩
    have hz := List.of_mem_zip (a := p.1) (b := p.2) hp
    obtain ⟨x, hx, e1⟩ := List.mem_map.1 hz.1
    obtain ⟨y, hy, e2⟩ := List.mem_map.1 hz.2
    rw [← e1, ← e2]
    exact ⟨hfa.arg x hx, hfb.arg y hy⟩
theorem uniP_fin : ∀ (f k : Nat) (S : Sto) (l : List (Nat × Nat)), Inv S → InL S l → (uniP true f k S l).1 = some true → (∀ p ∈ l, Ends S p.1 ∧ Ends S p.2) → ∀ x, x < S.cells.length → Ends S x → Ends (uniP true f k S l).2.1 x
  | 0, k, S, l, hS, hl, h, hp, x, hx, hf => by
    unfold uniP at h ⊢
    split at h
    · rename_i e; rw [if_pos e]; exact hf
    · simp at h
  | f + 1, k, S, [], hS, hl, h, hp, x, hx, hf => hf
  | f + 1, k, S, p :: l, hS, hl, h, hp, x, hx, hf => by
    obtain ⟨h1, h2⟩ := hl p (List.mem_cons_self ..)
    have hxt := oneP_ext hS (sf := true) (k := k - 1) h1 h2
    have hm := oneP_more hS (sf := true) (k := k - 1) h1 h2
    have hfin := oneP_fin hS (k := k - 1) h1 h2
    obtain ⟨p1, p2⟩ := hp p (List.mem_cons_self ..)
    unfold uniP at h ⊢
    dsimp only at h ⊢
    split at h
    · simp at h
    rename_i hk0
    rw [if_neg hk0]
    generalize oneP S true (k - 1) p.1 p.2 = r at *
    obtain ⟨⟨o, S', k'⟩, more⟩ := r
    dsimp only at h hxt hm hfin ⊢
    cases o with
    | none => simp at h
    | some o =>
      cases o with
      | false => simp at h
      | true =>
        obtain ⟨g1, g2⟩ := hfin rfl p1 p2
        refine uniP_fin f k' S' (more ++ l) hxt.inv (hl.next hm hxt.len) h (fun q hq => ?_) x (by rw [hxt.len]; exact hx) (g1 x hx hf)
        rcases List.mem_append.1 hq with hq | hq
        · exact ⟨g1 _ (hm q hq).1 (g2 q hq).1, g1 _ (hm q hq).2 (g2 q hq).2⟩
        · have hi := hl q (List.mem_cons_of_mem _ hq)
          have hq' := hp q (List.mem_cons_of_mem _ hq)
          exact ⟨g1 _ hi.1 hq'.1, g1 _ hi.2 hq'.2⟩
theorem hfold_top {g : Nat → Option Nat} : ∀ {l : List Int} {h : Nat} {m : Nat}, l.foldl (hStep g) (some m) = some h → h = m ∨ ∃ a ∈ l, g a.toNat = some h
  | [], h, m, e => by simp only [List.foldl_nil, Option.some.injEq] at e; exact .inl e.symm
  | a :: l, h, m, e => by
    rw [List.foldl_cons] at e
    cases hk : g a.toNat with
    | none => rw [show hStep g (some m) a = none by simp [hStep, hk], hfold_none] at e; cases e
    | some k =>
      rw [show hStep g (some m) a = some (max m k) by simp [hStep, hk]] at e
      rcases hfold_top e with h1 | ⟨b, hb, h1⟩
      · by_cases hmk : m ≤ k
        · rw [Nat.max_eq_right hmk] at h1
          exact .inr ⟨a, List.mem_cons_self .., by rw [h1]; exact hk⟩
        · rw [Nat.max_eq_left (by omega)] at h1
          exact .inl h1
      · exact .inr ⟨b, List.mem_cons_of_mem _ hb, h1⟩
/-- no higher than there are cells -/
theorem hgt_cells {S : Sto} (hS : Inv S) : ∀ (h f x : Nat), x < S.cells.length → hgtF S f x = some h → h ≤ S.cells.length := by
  have key : ∀ (f x h : Nat), x < S.cells.length → hgtF S f x = some h → ∃ l : List Nat, l.length = h ∧ l.Nodup ∧ (∀ y ∈ l, y < S.cells.length ∧ ∃ f' k, hgtF S f' y = some k ∧ k ≤ h) := by
    intro f
    induction f with
    | zero => intro x h _ e; simp [hgtF] at e
    | succ f ih =>
      intro x h hx e
      have e' := e
      simp only [hgtF, Option.map_eq_some_iff] at e
      obtain ⟨m, hm, rfl⟩ := e
      have hl : ∃ l : List Nat, l.length = m ∧ l.Nodup ∧ ∀ y ∈ l, y < S.cells.length ∧ ∃ f' k, hgtF S f' y = some k ∧ k ≤ m := by
        rcases hfold_top hm with rfl | ⟨a, ha, hk⟩
        · exact ⟨[], rfl, List.nodup_nil, fun y hy => by cases hy⟩
        · exact ih a.toNat m (argN_mem hS hx (List.mem_map.2 ⟨a, ha, rfl⟩)) hk
      obtain ⟨l, h1, h2, h3⟩ := hl
      refine ⟨x :: l, by simp [h1], List.nodup_cons.2 ⟨fun hx' => ?_, h2⟩, fun y hy => ?_⟩
      · obtain ⟨-, f', k, hk, hle⟩ := h3 x hx'
        have e1 := hgt_at S _ x (m + 1) (max (m + 1) k) e' (by omega)
        have e2 := hgt_at S _ x k (max (m + 1) k) hk (by omega)
        rw [e1] at e2
        simp only [Option.some.injEq] at e2
        omega
      · rcases List.mem_cons.1 hy with rfl | hy
        · exact ⟨hx, _, _, e', Nat.le_refl _⟩
        · obtain ⟨g1, f', k, g2, g3⟩ := h3 y hy
          exact ⟨g1, f', k, g2, by omega⟩
  intro h f x hx e
  obtain ⟨l, h1, h2, h3⟩ := key f x h hx e
  have := nodup_len _ l h2 fun y hy => (h3 y hy).1
  omega
theorem Ends.at {S : Sto} (hS : Inv S) {x : Nat} (hx : x < S.cells.length) (h : Ends S x) {f : Nat} (hf : S.cells.length ≤ f) : hgtF S f x ≠ none := by
  obtain ⟨f', n, e⟩ := h
  have := hgt_cells hS n f' x hx e
  rw [hgt_at S f' x n f e (by omega)]
  simp
mutual
theorem tr_ends {S : Sto} : ∀ (t : Tm) (x : Nat), Tr S t x → Ends S x
  | .mk k n s ts, x, h => by
    unfold Tr at h
    obtain ⟨c, h1, -, h3⟩ := h
    refine Ends.mk' ?_
    have hc : cellF S x = c := by unfold cellF; rw [h1]; rfl
    rw [hc]
    exact tr_endsL ts c.args h3
theorem tr_endsL {S : Sto} : ∀ (ts : List Tm) (xs : List Int), TrL S ts xs → ∀ a ∈ xs, Ends S a.toNat
  | [], [], _ => fun a ha => by cases ha
  | t :: ts, a :: xs, h => by
    unfold TrL at h
    intro b hb
    rcases List.mem_cons.1 hb with rfl | hb
    · exact tr_ends t _ h.1
    · exact tr_endsL ts xs h.2 b hb
  | [], _ :: _, h => by simp [TrL] at h
  | _ :: _, [], h => by simp [TrL] at h
end
theorem plus_at {S : Sto} {m : List SCell} {x : Nat} (hx : x < S.cells.length) : (plusS S m).cells[x]? = S.cells[x]? := by
  show (S.cells ++ m)[x]? = _
  exact List.getElem?_append_left hx
theorem ch_plus {S : Sto} {m : List SCell} : ∀ {f x r : Nat}, Ch S f x r → Ch (plusS S m) f x r
  | 0, x, r, ⟨hx, h1, e⟩ => by
    have hx' : x < (plusS S m).cells.length := by simp [plusS]; omega
    have h := plus_at (m := m) hx
    rw [List.getElem?_eq_getElem hx, List.getElem?_eq_getElem hx'] at h
    exact ⟨hx', by rw [Option.some.inj h]; exact h1, e⟩
  | f + 1, x, r, ⟨hx, y, e, hc⟩ => by
    have hx' : x < (plusS S m).cells.length := by simp [plusS]; omega
    have h := plus_at (m := m) hx
    rw [List.getElem?_eq_getElem hx, List.getElem?_eq_getElem hx'] at h
    exact ⟨hx', y, by rw [Option.some.inj h]; exact e, ch_plus hc⟩
theorem fol_plus {S : Sto} (hS : Inv S) {m : List SCell} {x : Nat} (hx : x < S.cells.length) : fol (plusS S m) x = fol S x ∧ cellF (plusS S m) x = cellF S x := by
  obtain ⟨f, hc⟩ := hS.folch hx
  have e := fol_eq (ch_plus (m := m) hc)
  refine ⟨e, ?_⟩
  unfold cellF
  rw [e, plus_at (hS.fol_lt hx)]
theorem Ends.plus {S : Sto} (hS : Inv S) {m : List SCell} {x : Nat} (h : Ends S x) : x < S.cells.length → Ends (plusS S m) x := by
  refine Ends.rec' (S := S) (Q := fun x => x < S.cells.length → Ends (plusS S m) x) (fun x _ ih hx => ?_) x h
  refine Ends.mk' fun a ha => ?_
  rw [(fol_plus hS hx).2] at ha
  exact ih a ha (argN_mem hS hx (List.mem_map.2 ⟨a, ha, rfl⟩))
/-- what the told variables are: free variables -/
def VOk (S : Sto) (M : List (Int × Int)) : Prop := ∀ p ∈ M, ∃ c, S.cells[p.2.toNat]? = some c ∧ c.k = 1 ∧ c.lk = -1 ∧ c.args = []
theorem VOk.put {S : Sto} (hS : Inv S) {M : List (Int × Int)} (h : VOk S M) (hM : MOk S M) {t : Tm} (hm : MayPut S M t) : VOk (putS S M t) (M ++ putN S M t) := by
  intro p hp
  rcases List.mem_append.1 hp with hp | hp
  · obtain ⟨c, h1, h2⟩ := h p hp
    exact ⟨c, (plus_at (List.getElem?_eq_some_iff.1 h1).1).trans h1, h2⟩
  · rw [hm.eq.2.2] at hp
    rcases put_new t S.cells.length [] p hp with h1 | ⟨i, d, h1, h2, h3, h4, h5⟩
    · cases h1
    · obtain ⟨c, hc, e⟩ := fixTop_at (T := lastTop S.cells) h1
      refine ⟨c, ?_, e.1.trans h3, e.2.2.2.2.trans h4, e.2.2.2.1.trans h5⟩
      rw [h2, Int.toNat_natCast]
      show (S.cells ++ fixTop (lastTop S.cells) (putR S M t).2.1)[S.cells.length + i]? = some c
      rw [List.getElem?_append_right (by omega), show S.cells.length + i - S.cells.length = i by omega]
      exact hc
theorem vok_tr {S : Sto} {M : List (Int × Int)} (h : VOk S M) {n v : Int} (hv : mget M n = some v) (h0 : 0 ≤ v) : Tr S (.mk 1 v ⟨#[]⟩ []) v.toNat := by
  obtain ⟨c, h1, h2, h3, h4⟩ := h _ (mget_some hv)
  dsimp only at h1
  have e := fol_root h1 h3
  unfold Tr
  rw [e]
  refine ⟨c, h1, ?_, by rw [h4]; exact trivial⟩
  unfold shellC
  rw [if_pos h2, Int.toNat_of_nonneg h0]
/-- a term that was put reads as a tree -/
theorem put_trM {S : Sto} (hS : Inv S) {M : List (Int × Int)} (hV : VOk S M) (hM : MOk S M) {t : Tm} (hm : MayPut S M t) : Tr (putS S M t) (subT (fun n => .mk 1 ((mget (M ++ putN S M t) n).getD 0) ⟨#[]⟩ []) t) (putR S M t).1.toNat := by
  have hV' := hV.put hS hM hm
  have hM' := hM.put hS hm
  have hc : mayT t = true := check_may hm.chk
  have app1 : ∀ n v, mget M n = some v → mget (M ++ putN S M t) n = some v := fun n v h => by
    have key : ∀ (l m : List (Int × Int)), mget l n = some v → mget (l ++ m) n = some v := by
      intro l
      induction l with
      | nil => intro m h; simp [mget] at h
      | cons q l ih => intro m h; simp only [List.cons_append, mget] at h ⊢; split <;> simp_all
    exact key _ _ h
  have app2 : ∀ n v, mget M n = none → mget (putN S M t) n = some v → mget (M ++ putN S M t) n = some v := fun n v h0 h => by
    have key : ∀ (l m : List (Int × Int)), mget l n = none → mget (l ++ m) n = mget m n := by
      intro l
      induction l with
      | nil => intro m _; rfl
      | cons q l ih => intro m h; simp only [List.cons_append, mget] at h ⊢; split <;> simp_all
    rw [key _ _ h0, h]
  have hA : AgreeAt (putS S M t) S.cells.length (putR S M t).2.1 := fun i d h => by
    obtain ⟨c, h1, h2⟩ := fixTop_at (T := lastTop S.cells) h
    refine ⟨c, ?_, h2⟩
    show (S.cells ++ fixTop (lastTop S.cells) (putR S M t).2.1)[S.cells.length + i]? = some c
    rw [List.getElem?_append_right (by omega)]
    simpa using h1
  refine put_tr (G := putN S M t) (told := fun n => mget M n) (fun n a h => ?_) (fun n v h0 h => ?_) t _ _ hc hA (fun n v h => by rw [hm.eq.2.2]; exact h)
  · have h2 := app1 n a h
    rw [h2, Option.getD_some]
    exact vok_tr hV' h2 (hM'.inn _ (mget_some h2)).1
  · have h2 := app2 n v h0 h
    rw [h2, Option.getD_some]
    exact vok_tr hV' h2 (hM'.inn _ (mget_some h2)).1
/-! ### Too deep: no end -/
theorem gfold_deep {g : Nat → Nat → Tm × Int × Nat} : ∀ (l : List Int) (st : List Tm × Int × Nat), st.2.1 = 0 → (l.foldl (gStep g) st).2.1 = 4 → ∃ a ∈ l, ∃ n, (g a.toNat n).2.1 = 4
  | [], st, h0, h => by rw [List.foldl_nil, h0] at h; cases h
  | a :: l, st, h0, h => by
    rw [List.foldl_cons] at h
    by_cases h2 : (g a.toNat st.2.2).2.1 = 0
    · rw [gStep_ok h0 h2] at h
      obtain ⟨b, hb, n, hn⟩ := gfold_deep l _ rfl h
      exact ⟨b, List.mem_cons_of_mem _ hb, n, hn⟩
    · rw [gStep_bad h0 h2, gfold_stop _ _ _ h2] at h
      exact ⟨a, List.mem_cons_self .., _, h⟩
theorem getG_deep (S : Sto) : ∀ (f x n : Nat), (getG S f x n).2.1 = 4 → hgtF S f x = none
  | 0, x, n, _ => rfl
  | f + 1, x, n, h => by
    rw [getG_succ] at h
    by_cases h1 : 20000 < n + 1
    · rw [if_pos h1] at h; cases h
    · rw [if_neg h1] at h
      by_cases h2 : ((cellF S x).args.foldl (gStep (getG S f)) ([], 0, n + 1)).2.1 ≠ 0
      · rw [if_pos h2] at h
        obtain ⟨a, ha, m, hm⟩ := gfold_deep _ _ rfl h
        have hno := getG_deep S f _ _ hm
        simp only [hgtF, Option.map_eq_none_iff]
        cases e : (cellF S x).args.foldl (hStep (hgtF S f)) (some 0) with
        | none => rfl
        | some k =>
          obtain ⟨j, hj, -⟩ := (hfold_some e).2 a ha
          rw [hno] at hj
          cases hj
      · rw [if_neg h2] at h; cases h
theorem getE_deep {S : Sto} {x : Nat} (h : getE S x = 4) : hgtF S 2000 x = none := by
  unfold getE at h
  split at h
  · rename_i h1; exact h1.2
  · exact getG_deep S 2000 x 0 h
theorem PutIs.ends {S S' : Sto} {M M' : List (Int × Int)} {t : Tm} {x : Nat} (h : PutIs S M t x 0 S' M') (hI : Inv S) (hV : VOk S M) (hM : MOk S M) (hc : checkT t = 0) : Ends S' x ∧ VOk S' M' ∧ ∀ y, y < S.cells.length → Ends S y → Ends S' y := by
  have hcnt : (cntM S M t).1 = true := cnt_all (fun n a ha => hM.inn _ (mget_some ha)) t 0 []
  have hfit : ¬ S.room - S.cells.length < ((cntM S M t).2.1 : Int) := fun hf => by
    have := h.a
    unfold putA at this
    simp [hc, hcnt, hf] at this
  have hm : MayPut S M t := ⟨hc, hcnt, by unfold cntM at hfit; omega⟩
  obtain ⟨e1, e2, e3⟩ := hm.eq
  have hS' : S' = putS S M t := by rw [← h.w, e1]
  have hM' : M' = M ++ putN S M t := h.n.symm
  have hx : x = (putR S M t).1.toNat := by
    have := h.a
    rw [e2] at this
    simp only [Prod.mk.injEq, and_true] at this
    omega
  subst hS' hM' hx
  exact ⟨tr_ends _ _ (put_trM hI hV hM hm), hV.put hI hM hm, fun y hy he => he.plus hI hy⟩
theorem VOk.nil (S : Sto) : VOk S [] := fun p hp => by cases hp
/-- Safely leaves an end -/
theorem safe_ends {S : Sto} (hS : Inv S) {a b : Nat} (ha : a < S.cells.length) (hb : b < S.cells.length) (h : uniR S true a b = some true) (hfa : Ends S a) (hfb : Ends S b) (hl : S.cells.length ≤ 2000) : getE (uniW S true a b) a ≠ 4 := by
  intro he
  have h1 := getE_deep he
  have hx := uniW_ext hS (sf := true) ha hb
  have e : uniW S true a b = (uniP true 20000 20000 S [(a, b)]).2.1 := if_pos h
  have hf : Ends (uniW S true a b) a := by
    rw [e]
    exact uniP_fin 20000 20000 S [(a, b)] hS (inl1 ha hb) h (fun p hp => by rw [List.mem_singleton.1 hp]; exact ⟨hfa, hfb⟩) a ha hfa
  exact hf.at hx.inv (by rw [hx.len]; exact ha) (by rw [hx.len]; exact hl) h1
end Go.Proofs.Ytoklbeogmcdgaaa.Tms
