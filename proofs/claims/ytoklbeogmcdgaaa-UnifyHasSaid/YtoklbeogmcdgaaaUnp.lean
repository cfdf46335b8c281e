
/-
  Layer 9, plain: has, unify; what was made one reads alike to whatever depth; a way out in one order is one in any other; what Safely makes has an end.
-/
import Derived.Test.YtoklbeogmcdgaaaGte
import Derived.Test.YtoklbeogmcdgaaaPlx
namespace Go.Proofs.Ytoklbeogmcdgaaa.Tms
open Go Go.RowKit Go.Proofs.Ytoklbeogmcdgaaa.Reg Go.Proofs.Ytoklbeogmcdgaaa.Rws Go.Proofs.Ytoklbeogmcdgaaa.Maps
set_option linter.unusedVariables false
set_option linter.unusedSimpArgs false

noncomputable def argN (S : Sto) (x : Nat) : List Nat := (cellF S x).args.map Int.toNat
/-- is v among the parts? So many may still be looked at; the parts that wait, the next one first -/
noncomputable def hasP (S : Sto) (v : Nat) : Nat → List Nat → Option Bool × Nat
  | 0, l => if l = [] then (some false, 0) else (none, 0)
  | k + 1, l => match l with
    | [] => (some false, k + 1)
    | c :: l => if fol S c = v then (some true, k) else hasP S v k (argN S c ++ l)
noncomputable def bindP (S : Sto) (sf : Bool) (k v t : Nat) (tk : Int) : Option Bool × Sto × Nat :=
  if sf = true ∧ tk ≠ 1 then (match (hasP S v k [t]).1 with
    | none => (none, S, (hasP S v k [t]).2)
    | some true => (some false, S, (hasP S v k [t]).2)
    | some false => (some true, bindS S v t, (hasP S v k [t]).2)) else (some true, bindS S v t, k)
noncomputable def oneP (S : Sto) (sf : Bool) (k a b : Nat) : (Option Bool × Sto × Nat) × List (Nat × Nat) :=
  if fol S a = fol S b then ((some true, S, k), []) else
  if (cellF S a).k = 1 then (bindP S sf k (fol S a) (fol S b) (cellF S b).k, []) else
  if (cellF S b).k = 1 then (bindP S sf k (fol S b) (fol S a) (cellF S a).k, []) else
  if (cellF S a).k ≠ (cellF S b).k ∨ (cellF S a).n ≠ (cellF S b).n ∨ (cellF S a).s ≠ (cellF S b).s ∨ (cellF S a).args.length ≠ (cellF S b).args.length then ((some false, S, k), []) else
  ((some true, S, k), (argN S a).zip (argN S b))
/-- all that waits: f is at least what may still be looked at -/
noncomputable def uniP (sf : Bool) : Nat → Nat → Sto → List (Nat × Nat) → Option Bool × Sto × Nat
  | 0, k, S, l => if l = [] then (some true, S, k) else (none, S, 0)
  | f + 1, k, S, l => match l with
    | [] => (some true, S, k)
    | p :: l => if k = 0 then (none, S, 0) else
      match (oneP S sf (k - 1) p.1 p.2).1 with
      | (some true, S', k') => uniP sf f k' S' ((oneP S sf (k - 1) p.1 p.2).2 ++ l)
      | r => r
theorem hasP_le (S : Sto) (v : Nat) : ∀ (k : Nat) (l : List Nat), (hasP S v k l).2 ≤ k
  | 0, l => by unfold hasP; split <;> exact Nat.le_refl _
  | k + 1, [] => Nat.le_refl _
  | k + 1, c :: l => by
    unfold hasP
    dsimp only
    split
    · exact Nat.le_succ _
    · have := hasP_le S v k (argN S c ++ l); omega
theorem bindP_le (S : Sto) (sf : Bool) (k v t : Nat) (tk : Int) : (bindP S sf k v t tk).2.2 ≤ k := by
  have := hasP_le S v k [t]
  unfold bindP
  split
  · split <;> exact this
  · exact Nat.le_refl _
theorem oneP_le (S : Sto) (sf : Bool) (k a b : Nat) : (oneP S sf k a b).1.2.2 ≤ k := by
  unfold oneP
  split
  · exact Nat.le_refl _
  split
  · exact bindP_le ..
  split
  · exact bindP_le ..
  split <;> exact Nat.le_refl _
/-! ### What a step leaves -/
/-- T was S, and some variables were bound -/
inductive Ext (S : Sto) : Sto → Prop
  | refl : Inv S → Ext S S
  | step {T : Sto} (v t : Nat) (h : Ext S T) (hI : Inv T) (hv : v < T.cells.length) (ht : t < T.cells.length) (hvl : (T.cells[v]).lk = -1) (htl : (T.cells[t]).lk = -1) (hk : (T.cells[v]).k = 1) (hne : v ≠ t) : Ext S (bindS T v t)
theorem Ext.inv {S T : Sto} (h : Ext S T) : Inv T := by
  cases h with
  | refl h => exact h
  | step v t h hI hv ht hvl htl hk hne => exact hI.bind hv ht hvl htl hk hne
theorem Ext.since {S T : Sto} (h : Ext S T) : Since S T := by
  induction h with
  | refl h => exact .refl
  | step v t h hI hv ht hvl htl hk hne ih => exact .step v t ih hv hvl
theorem Ext.trans {S T U : Sto} (h : Ext S T) (h' : Ext T U) : Ext S U := by
  induction h' with
  | refl _ => exact h
  | step v t _ hI hv ht hvl htl hk hne ih => exact .step v t ih hI hv ht hvl htl hk hne
theorem Ext.len {S T : Sto} (h : Ext S T) : T.cells.length = S.cells.length := h.since.len.1
theorem Inv.root {S : Sto} (h : Inv S) {x : Nat} (hx : x < S.cells.length) : ∃ hl : fol S x < S.cells.length, S.cells[fol S x] = cellF S x ∧ (S.cells[fol S x]).lk = -1 := by
  have hl := h.fol_lt hx
  refine ⟨hl, ?_, h.fol_free hx⟩
  unfold cellF
  rw [List.getElem?_eq_getElem hl]
  rfl
theorem Inv.nv {S : Sto} (h : Inv S) {x : Nat} (hx : x < S.cells.length) (hk : (S.cells[x]).k ≠ 1) : fol S x = x ∧ cellF S x = S.cells[x] := by
  have hl : (S.cells[x]).lk = -1 := by
    rcases (h.cell x _ (List.getElem?_eq_getElem hx)).lk with e | e
    · exact e
    · exact absurd e.2.2 hk
  have e := fol_root (List.getElem?_eq_getElem hx) hl
  refine ⟨e, ?_⟩
  unfold cellF
  rw [e, List.getElem?_eq_getElem hx]
  rfl
/-- a cell that is no variable stays as it is -/
theorem Ext.nv {S T : Sto} (h : Ext S T) {x : Nat} (hx : x < S.cells.length) (hk : (S.cells[x]).k ≠ 1) : T.cells[x]? = S.cells[x]? := by
  induction h with
  | refl _ => rfl
  | step v t h hI hv ht hvl htl hk' hne ih =>
    rw [bind_get hv, if_neg, ih]
    intro e
    subst e
    rw [List.getElem?_eq_getElem hv, List.getElem?_eq_getElem hx] at ih
    simp only [Option.some.injEq] at ih
    rw [ih] at hk'
    exact hk hk'
theorem Ext.nvF {S T : Sto} (h : Ext S T) (hS : Inv S) {x : Nat} (hx : x < S.cells.length) (hk : (S.cells[x]).k ≠ 1) : fol T x = x ∧ cellF T x = S.cells[x] := by
  have hx' : x < T.cells.length := by rw [h.len]; exact hx
  have e := h.nv hx hk
  rw [List.getElem?_eq_getElem hx, List.getElem?_eq_getElem hx'] at e
  simp only [Option.some.injEq] at e
  have := h.inv.nv hx' (by rw [e]; exact hk)
  rw [e] at this
  exact this
/-- what following made one stays one -/
theorem Ext.fol {S T : Sto} (h : Ext S T) {x y : Nat} (hx : x < S.cells.length) (hy : y < S.cells.length) (e : fol S x = fol S y) : fol T x = fol T y := by
  induction h with
  | refl _ => exact e
  | step v t h hI hv ht hvl htl hk hne ih =>
    have hl := h.len
    rw [fol_bind hI hv ht hvl htl hne (by omega), fol_bind hI hv ht hvl htl hne (by omega), ih]
/-- what a root is followed to later is what its variable is -/
theorem Ext.folfol {S T : Sto} (h : Ext S T) (hS : Inv S) {x : Nat} (hx : x < S.cells.length) : Tms.fol T (Tms.fol S x) = Tms.fol T x :=
  h.fol (hS.fol_lt hx) hx (hS.fol_fol hx)
theorem bindP_ext {S : Sto} (hS : Inv S) {sf : Bool} {k v t : Nat} {tk : Int} (hv : v < S.cells.length) (ht : t < S.cells.length) (hvl : (S.cells[v]).lk = -1) (htl : (S.cells[t]).lk = -1) (hk : (S.cells[v]).k = 1) (hne : v ≠ t) :
    ((bindP S sf k v t tk).1 = some true ∧ (bindP S sf k v t tk).2.1 = bindS S v t) ∨ ((bindP S sf k v t tk).1 ≠ some true ∧ (bindP S sf k v t tk).2.1 = S) := by
  unfold bindP
  split
  · split
    · exact .inr ⟨by simp, rfl⟩
    · exact .inr ⟨by simp, rfl⟩
    · exact .inl ⟨rfl, rfl⟩
  · exact .inl ⟨rfl, rfl⟩
theorem argN_mem {S : Sto} (hS : Inv S) {x y : Nat} (hx : x < S.cells.length) (h : y ∈ argN S x) : y < S.cells.length := by
  obtain ⟨hl, e, -⟩ := hS.root hx
  obtain ⟨a, ha, rfl⟩ := List.mem_map.1 h
  rw [← e] at ha
  have := (hS.cell _ _ (List.getElem?_eq_getElem hl)).args a ha
  omega
/-- the pairs that are put -/
theorem oneP_more {S : Sto} (hS : Inv S) {sf : Bool} {k a b : Nat} (ha : a < S.cells.length) (hb : b < S.cells.length) : ∀ p ∈ (oneP S sf k a b).2, p.1 < S.cells.length ∧ p.2 < S.cells.length := by
  unfold oneP
  split
  · intro p h; cases h
  split
  · intro p h; cases h
  split
  · intro p h; cases h
  split
  · intro p h; cases h
  · intro p h
    have := List.of_mem_zip (a := p.1) (b := p.2) h
    exact ⟨argN_mem hS ha this.1, argN_mem hS hb this.2⟩
theorem oneP_ext {S : Sto} (hS : Inv S) {sf : Bool} {k a b : Nat} (ha : a < S.cells.length) (hb : b < S.cells.length) : Ext S (oneP S sf k a b).1.2.1 := by
  obtain ⟨la, ea, fa⟩ := hS.root ha
  obtain ⟨lb, eb, fb⟩ := hS.root hb
  unfold oneP
  split
  · exact .refl hS
  rename_i hne
  split
  · rename_i hk
    have hk' : (S.cells[fol S a]).k = 1 := by rw [ea]; exact hk
    rcases bindP_ext hS (sf := sf) (k := k) (tk := (cellF S b).k) la lb fa fb hk' hne with ⟨-, e⟩ | ⟨-, e⟩
    · rw [e]; exact .step _ _ (.refl hS) hS la lb fa fb hk' hne
    · rw [e]; exact .refl hS
  split
  · rename_i hk
    have hk' : (S.cells[fol S b]).k = 1 := by rw [eb]; exact hk
    rcases bindP_ext hS (sf := sf) (k := k) (tk := (cellF S a).k) lb la fb fa hk' (Ne.symm hne) with ⟨-, e⟩ | ⟨-, e⟩
    · rw [e]; exact .step _ _ (.refl hS) hS lb la fb fa hk' (Ne.symm hne)
    · rw [e]; exact .refl hS
  split <;> exact .refl hS
def InL (S : Sto) (l : List (Nat × Nat)) : Prop := ∀ p ∈ l, p.1 < S.cells.length ∧ p.2 < S.cells.length
theorem InL.next {S T : Sto} {p : Nat × Nat} {m l : List (Nat × Nat)} (h : InL S (p :: l)) (hm : ∀ q ∈ m, q.1 < S.cells.length ∧ q.2 < S.cells.length) (e : T.cells.length = S.cells.length) : InL T (m ++ l) := by
  intro q hq
  rw [e]
  rcases List.mem_append.1 hq with hq | hq
  · exact hm q hq
  · exact h q (List.mem_cons_of_mem _ hq)
theorem uniP_ext (sf : Bool) : ∀ (f k : Nat) (S : Sto) (l : List (Nat × Nat)), Inv S → InL S l → Ext S (uniP sf f k S l).2.1
  | 0, k, S, l, hS, hl => by unfold uniP; split <;> exact .refl hS
  | f + 1, k, S, [], hS, hl => .refl hS
  | f + 1, k, S, p :: l, hS, hl => by
    obtain ⟨h1, h2⟩ := hl p (List.mem_cons_self ..)
    have hx := oneP_ext hS (sf := sf) (k := k - 1) h1 h2
    have hm := oneP_more hS (sf := sf) (k := k - 1) h1 h2
    unfold uniP
    dsimp only
    split
    · exact .refl hS
    · split
      · rename_i S' k' e
        rw [e] at hx
        exact hx.trans (uniP_ext sf f k' S' _ hx.inv (hl.next hm hx.len))
      · exact hx
/-! ### Alike to a depth -/
def Pw (R : Nat → Nat → Prop) : List Int → List Int → Prop
  | [], [] => True
  | a :: l, b :: m => R a.toNat b.toNat ∧ Pw R l m
  | _, _ => False
theorem Pw.imp {R R' : Nat → Nat → Prop} : ∀ {l m : List Int}, Pw R l m → (∀ a b, a ∈ l → b ∈ m → R a.toNat b.toNat → R' a.toNat b.toNat) → Pw R' l m
  | [], [], _, _ => trivial
  | a :: l, b :: m, h, hi => ⟨hi a b (List.mem_cons_self ..) (List.mem_cons_self ..) h.1, Pw.imp h.2 fun a b ha hb => hi a b (List.mem_cons_of_mem _ ha) (List.mem_cons_of_mem _ hb)⟩
  | [], _ :: _, h, _ => h.elim
  | _ :: _, [], h, _ => h.elim
theorem Pw.refl {R : Nat → Nat → Prop} (h : ∀ a, R a a) : ∀ l, Pw R l l
  | [] => trivial
  | a :: l => ⟨h _, Pw.refl h l⟩
theorem Pw.symm {R R' : Nat → Nat → Prop} (h : ∀ a b, R a b → R' b a) : ∀ {l m : List Int}, Pw R l m → Pw R' m l
  | [], [], _ => trivial
  | a :: l, b :: m, hp => ⟨h _ _ hp.1, Pw.symm h hp.2⟩
  | [], _ :: _, hp => hp.elim
  | _ :: _, [], hp => hp.elim
theorem Pw.trans {R R' R'' : Nat → Nat → Prop} (h : ∀ a b c, R a b → R' b c → R'' a c) : ∀ {l m n : List Int}, Pw R l m → Pw R' m n → Pw R'' l n
  | [], [], [], _, _ => trivial
  | a :: l, b :: m, c :: n, h1, h2 => ⟨h _ _ _ h1.1 h2.1, Pw.trans h h1.2 h2.2⟩
  | [], [], _ :: _, _, h2 => h2.elim
  | [], _ :: _, _, h1, _ => h1.elim
  | _ :: _, [], _, h1, _ => h1.elim
  | _ :: _, _ :: _, [], _, h2 => h2.elim
theorem Pw.len {R : Nat → Nat → Prop} : ∀ {l m : List Int}, Pw R l m → l.length = m.length
  | [], [], _ => rfl
  | a :: l, b :: m, h => by simp [Pw.len h.2]
  | [], _ :: _, h => h.elim
  | _ :: _, [], h => h.elim
theorem Pw.of_zip {R : Nat → Nat → Prop} : ∀ {l m : List Int}, l.length = m.length → (∀ p ∈ (l.map Int.toNat).zip (m.map Int.toNat), R p.1 p.2) → Pw R l m
  | [], [], _, _ => trivial
  | a :: l, b :: m, h, hz => ⟨hz (a.toNat, b.toNat) (by simp), Pw.of_zip (by simpa using h) fun p hp => hz p (by simp only [List.map_cons, List.zip_cons_cons]; exact List.mem_cons_of_mem _ hp)⟩
  | [], _ :: _, h, _ => by simp at h
  | _ :: _, [], h, _ => by simp at h
theorem Pw.zip {R : Nat → Nat → Prop} : ∀ {l m : List Int}, Pw R l m → ∀ p ∈ (l.map Int.toNat).zip (m.map Int.toNat), R p.1 p.2
  | [], [], _, p, hp => by cases hp
  | a :: l, b :: m, h, p, hp => by
    simp only [List.map_cons, List.zip_cons_cons, List.mem_cons] at hp
    rcases hp with rfl | hp
    · exact h.1
    · exact Pw.zip h.2 p hp
  | [], _ :: _, h, _, _ => h.elim
  | _ :: _, [], h, _, _ => h.elim
/-- two cells read the same, so deep -/
def AlF (S : Sto) : Nat → Nat → Nat → Prop
  | 0, _, _ => True
  | f + 1, x, y => shellC (fol S x) (cellF S x) = shellC (fol S y) (cellF S y) ∧ Pw (AlF S f) (cellF S x).args (cellF S y).args
theorem AlF.refl (S : Sto) : ∀ (f x : Nat), AlF S f x x
  | 0, _ => trivial
  | f + 1, x => ⟨rfl, Pw.refl (AlF.refl S f) _⟩
theorem AlF.symm {S : Sto} : ∀ {f x y : Nat}, AlF S f x y → AlF S f y x
  | 0, _, _, _ => trivial
  | f + 1, _, _, h => ⟨h.1.symm, Pw.symm (fun _ _ => AlF.symm) h.2⟩
theorem AlF.trans {S : Sto} : ∀ {f x y z : Nat}, AlF S f x y → AlF S f y z → AlF S f x z
  | 0, _, _, _, _, _ => trivial
  | f + 1, _, _, _, h, h' => ⟨h.1.trans h'.1, Pw.trans (R := AlF S f) (R' := AlF S f) (R'' := AlF S f) (fun _ _ _ a b => AlF.trans a b) h.2 h'.2⟩
theorem AlF.of_fol {S : Sto} {x y : Nat} (e : fol S x = fol S y) (f : Nat) : AlF S f x y := by
  cases f with
  | zero => trivial
  | succ f =>
    have : cellF S x = cellF S y := by unfold cellF; rw [e]
    exact ⟨by rw [e, this], by rw [this]; exact Pw.refl (AlF.refl S f) _⟩
theorem gFold_pw {S : Sto} {f : Nat} (hg : ∀ x y n, AlF S f x y → getG S f x n = getG S f y n) : ∀ {l m : List Int} (st : List Tm × Int × Nat), Pw (AlF S f) l m → l.foldl (gStep (getG S f)) st = m.foldl (gStep (getG S f)) st
  | [], [], st, _ => rfl
  | a :: l, b :: m, st, h => by
    have e : gStep (getG S f) st a = gStep (getG S f) st b := by unfold gStep; rw [hg _ _ _ h.1]
    rw [List.foldl_cons, List.foldl_cons, e]
    exact gFold_pw hg _ h.2
  | [], _ :: _, _, h => h.elim
  | _ :: _, [], _, h => h.elim
theorem AlF.get {S : Sto} : ∀ (f x y n : Nat), AlF S f x y → getG S f x n = getG S f y n
  | 0, x, y, n, _ => rfl
  | f + 1, x, y, n, h => by
    rw [getG_succ, getG_succ, gFold_pw (fun x y n => AlF.get f x y n) _ h.2, h.1]
theorem hFold_pw {S : Sto} {f : Nat} (hg : ∀ x y, AlF S f x y → hgtF S f x = hgtF S f y) : ∀ {l m : List Int} (st : Option Nat), Pw (AlF S f) l m → l.foldl (hStep (hgtF S f)) st = m.foldl (hStep (hgtF S f)) st
  | [], [], st, _ => rfl
  | a :: l, b :: m, st, h => by
    have e : hStep (hgtF S f) st a = hStep (hgtF S f) st b := by unfold hStep; rw [hg _ _ h.1]
    rw [List.foldl_cons, List.foldl_cons, e]
    exact hFold_pw hg _ h.2
  | [], _ :: _, _, h => h.elim
  | _ :: _, [], _, h => h.elim
theorem AlF.hgt {S : Sto} : ∀ (f x y : Nat), AlF S f x y → hgtF S f x = hgtF S f y
  | 0, x, y, _ => rfl
  | f + 1, x, y, h => by
    simp only [hgtF]
    rw [hFold_pw (fun x y => AlF.hgt f x y) _ h.2]
/-! ### What was made one is alike -/
/-- pairs that are one cell, or hold the same, their Args being such pairs again -/
def Closed (S : Sto) (R : Nat → Nat → Prop) : Prop := ∀ a b, R a b → a < S.cells.length ∧ b < S.cells.length ∧ (fol S a = fol S b ∨ (cellF S a).k ≠ 1 ∧ (cellF S b).k ≠ 1 ∧ (cellF S a).k = (cellF S b).k ∧ (cellF S a).n = (cellF S b).n ∧ (cellF S a).s = (cellF S b).s ∧ Pw R (cellF S a).args (cellF S b).args)
theorem Closed.alike {S : Sto} {R : Nat → Nat → Prop} (h : Closed S R) : ∀ (f a b : Nat), R a b → AlF S f a b
  | 0, a, b, _ => trivial
  | f + 1, a, b, hr => by
    obtain ⟨-, -, e | ⟨k1, k2, e1, e2, e3, e4⟩⟩ := h a b hr
    · exact AlF.of_fol e _
    · refine ⟨?_, e4.imp fun x y _ _ hxy => h.alike f _ _ hxy⟩
      unfold shellC
      rw [if_neg k1, if_neg k2, e1, e2, e3]
theorem Ext.root_nv {S T : Sto} (h : Ext S T) (hS : Inv S) {x : Nat} (hx : x < S.cells.length) (hk : (cellF S x).k ≠ 1) : Tms.fol T x = Tms.fol S x ∧ cellF T x = cellF S x := by
  obtain ⟨hl, e, -⟩ := hS.root hx
  have h1 := h.nvF hS hl (by rw [e]; exact hk)
  have h2 := h.folfol hS hx
  rw [h1.1] at h2
  refine ⟨h2.symm, ?_⟩
  rw [← e, ← h1.2]
  unfold cellF
  rw [h1.1, h2]
theorem Closed.ext {S T : Sto} {R : Nat → Nat → Prop} (h : Closed S R) (hS : Inv S) (he : Ext S T) : Closed T R := by
  intro a b hr
  obtain ⟨ha, hb, h'⟩ := h a b hr
  refine ⟨by rw [he.len]; exact ha, by rw [he.len]; exact hb, ?_⟩
  rcases h' with e | ⟨k1, k2, e⟩
  · exact .inl (he.fol ha hb e)
  · rw [(he.root_nv hS ha k1).2, (he.root_nv hS hb k2).2]
    exact .inr ⟨k1, k2, e⟩
/-- what one step does, in three cases -/
theorem oneP_cases {S : Sto} (hS : Inv S) {sf : Bool} {k a b : Nat} (ha : a < S.cells.length) (hb : b < S.cells.length) (h : (oneP S sf k a b).1.1 = some true) :
    (fol (oneP S sf k a b).1.2.1 a = fol (oneP S sf k a b).1.2.1 b ∧ (oneP S sf k a b).2 = []) ∨ ((oneP S sf k a b).1.2.1 = S ∧ (oneP S sf k a b).1.2.2 = k ∧ (oneP S sf k a b).2 = (argN S a).zip (argN S b) ∧ (cellF S a).k ≠ 1 ∧ (cellF S b).k ≠ 1 ∧ (cellF S a).k = (cellF S b).k ∧ (cellF S a).n = (cellF S b).n ∧ (cellF S a).s = (cellF S b).s ∧ (cellF S a).args.length = (cellF S b).args.length) := by
  obtain ⟨la, ea, fa⟩ := hS.root ha
  obtain ⟨lb, eb, fb⟩ := hS.root hb
  unfold oneP at h ⊢
  split
  · rename_i e; exact .inl ⟨e, rfl⟩
  rename_i hne
  rw [if_neg hne] at h
  split
  · rename_i hk
    rw [if_pos hk] at h
    have hk' : (S.cells[fol S a]).k = 1 := by rw [ea]; exact hk
    rcases bindP_ext hS (sf := sf) (k := k) (tk := (cellF S b).k) la lb fa fb hk' hne with ⟨-, e⟩ | ⟨e, -⟩
    · dsimp only
      rw [e]
      refine .inl ⟨?_, rfl⟩
      rw [fol_bind hS la lb fa fb hne ha, fol_bind hS la lb fa fb hne hb, if_pos rfl, if_neg (Ne.symm hne)]
    · exact absurd h e
  rename_i hk1
  rw [if_neg hk1] at h
  split
  · rename_i hk
    rw [if_pos hk] at h
    have hk' : (S.cells[fol S b]).k = 1 := by rw [eb]; exact hk
    rcases bindP_ext hS (sf := sf) (k := k) (tk := (cellF S a).k) lb la fb fa hk' (Ne.symm hne) with ⟨-, e⟩ | ⟨e, -⟩
    · dsimp only
      rw [e]
      refine .inl ⟨?_, rfl⟩
      rw [fol_bind hS lb la fb fa (Ne.symm hne) ha, fol_bind hS lb la fb fa (Ne.symm hne) hb, if_pos rfl, if_neg hne]
    · exact absurd h e
  rename_i hk2
  rw [if_neg hk2] at h
  split
  · rename_i hc
    rw [if_pos hc] at h
    simp at h
  · rename_i hc
    refine .inr ⟨rfl, rfl, rfl, hk1, hk2, ?_, ?_, ?_, ?_⟩
    · exact Classical.byContradiction fun e => hc (.inl e)
    · exact Classical.byContradiction fun e => hc (.inr (.inl e))
    · exact Classical.byContradiction fun e => hc (.inr (.inr (.inl e)))
    · exact Classical.byContradiction fun e => hc (.inr (.inr (.inr e)))
theorem uniP_closed (sf : Bool) : ∀ (f k : Nat) (S : Sto) (l : List (Nat × Nat)), Inv S → InL S l → (uniP sf f k S l).1 = some true → ∃ R, (∀ p ∈ l, R p.1 p.2) ∧ Closed (uniP sf f k S l).2.1 R
  | 0, k, S, l, hS, hl, h => by
    unfold uniP at h ⊢
    split at h
    · rename_i e; subst e; exact ⟨fun _ _ => False, fun p hp => (by cases hp), fun a b h => h.elim⟩
    · simp at h
  | f + 1, k, S, [], hS, hl, h => ⟨fun _ _ => False, fun p hp => (by cases hp), fun a b h => h.elim⟩
  | f + 1, k, S, p :: l, hS, hl, h => by
    obtain ⟨h1, h2⟩ := hl p (List.mem_cons_self ..)
    have hx := oneP_ext hS (sf := sf) (k := k - 1) h1 h2
    have hm := oneP_more hS (sf := sf) (k := k - 1) h1 h2
    have hc := oneP_cases hS (sf := sf) (k := k - 1) h1 h2
    unfold uniP at h ⊢
    dsimp only at h ⊢
    split at h
    · simp at h
    rename_i hk0
    rw [if_neg hk0]
    split at h
    · rename_i S' k' e
      rw [e] at hx hc
      dsimp only at hc hx
      have hnext := hl.next hm hx.len
      have hfin := uniP_ext sf f k' S' _ hx.inv hnext
      obtain ⟨R, hR1, hR2⟩ := uniP_closed sf f k' S' _ hx.inv hnext h
      refine ⟨fun a b => R a b ∨ (a = p.1 ∧ b = p.2), fun q hq => ?_, ?_⟩
      · rcases List.mem_cons.1 hq with rfl | hq
        · exact .inr ⟨rfl, rfl⟩
        · exact .inl (hR1 q (List.mem_append_right _ hq))
      · intro a b hr
        rcases hr with hr | ⟨rfl, rfl⟩
        · obtain ⟨ha, hb, h'⟩ := hR2 a b hr
          refine ⟨ha, hb, h'.imp_right fun h => ⟨h.1, h.2.1, h.2.2.1, h.2.2.2.1, h.2.2.2.2.1, h.2.2.2.2.2.imp fun _ _ _ _ => .inl⟩⟩
        · have hlen := hfin.len.trans hx.len
          refine ⟨by rw [hlen]; exact h1, by rw [hlen]; exact h2, ?_⟩
          rcases hc rfl with ⟨hf, -⟩ | ⟨rfl, -, hmm, k1, k2, e1, e2, e3, e4⟩
          · exact .inl (hfin.fol (by rw [hx.len]; exact h1) (by rw [hx.len]; exact h2) hf)
          · rw [(hfin.root_nv hS h1 k1).2, (hfin.root_nv hS h2 k2).2]
            refine .inr ⟨k1, k2, e1, e2, e3, Pw.of_zip e4 fun q hq => .inl (hR1 q (List.mem_append_left _ ?_))⟩
            rw [hmm]
            exact hq
    · rename_i hne
      exact (hne (oneP S sf (k - 1) p.1 p.2).1.2.1 (oneP S sf (k - 1) p.1 p.2).1.2.2 (Prod.ext h rfl)).elim
/-! ### A way out -/
/-- cells that may be one, all of them -/
structure Sol (S : Sto) (E : Nat → Nat → Prop) : Prop where
  symm : ∀ a b, E a b → E b a
  trans : ∀ a b c, E a b → E b c → E a c
  fol : ∀ x, x < S.cells.length → E x (fol S x)
  cong : ∀ x y (hx : x < S.cells.length) (hy : y < S.cells.length), E x y → (S.cells[x]).k ≠ 1 → (S.cells[y]).k ≠ 1 → (S.cells[x]).k = (S.cells[y]).k ∧ (S.cells[x]).n = (S.cells[y]).n ∧ (S.cells[x]).s = (S.cells[y]).s ∧ Pw E (S.cells[x]).args (S.cells[y]).args
theorem Sol.bind {S : Sto} {E : Nat → Nat → Prop} (h : Sol S E) (hS : Inv S) {v t : Nat} (hv : v < S.cells.length) (ht : t < S.cells.length) (hvl : (S.cells[v]).lk = -1) (htl : (S.cells[t]).lk = -1) (hk : (S.cells[v]).k = 1) (hne : v ≠ t) (hE : E v t) : Sol (bindS S v t) E := by
  have hl := bind_len (t := t) hv
  have cell : ∀ x (hx : x < (bindS S v t).cells.length) (hx' : x < S.cells.length), ((bindS S v t).cells[x]).k ≠ 1 → x ≠ v ∧ (bindS S v t).cells[x] = S.cells[x] := by
    intro x hx hx' hkx
    have hxv : x ≠ v := fun e => by
      subst e
      have h := bind_get (t := t) hv x
      rw [if_pos rfl, List.getElem?_eq_getElem hx] at h
      rw [Option.some.inj h] at hkx
      exact hkx hk
    exact ⟨hxv, bind_at hv hx' hxv hx⟩
  refine ⟨h.symm, h.trans, fun x hx => ?_, fun x y hx hy hxy kx ky => ?_⟩
  · rw [hl] at hx
    rw [fol_bind hS hv ht hvl htl hne hx]
    split
    · rename_i e
      exact h.trans _ _ _ (by have := h.fol x hx; rw [e] at this; exact this) hE
    · exact h.fol x hx
  · obtain ⟨-, ex⟩ := cell x hx (by omega) kx
    obtain ⟨-, ey⟩ := cell y hy (by omega) ky
    rw [ex] at kx ⊢
    rw [ey] at ky ⊢
    exact h.cong x y (by omega) (by omega) hxy kx ky
/-- with a way out, a step goes on, and leaves the way out -/
theorem oneP_sol {S : Sto} {E : Nat → Nat → Prop} (h : Sol S E) (hS : Inv S) {k a b : Nat} (ha : a < S.cells.length) (hb : b < S.cells.length) (hE : E a b) :
    (oneP S false k a b).1.1 = some true ∧ Sol (oneP S false k a b).1.2.1 E ∧ ∀ p ∈ (oneP S false k a b).2, E p.1 p.2 := by
  obtain ⟨la, ea, fa⟩ := hS.root ha
  obtain ⟨lb, eb, fb⟩ := hS.root hb
  have hr : E (fol S a) (fol S b) := h.trans _ _ _ (h.symm _ _ (h.fol a ha)) (h.trans _ _ _ hE (h.fol b hb))
  have hbp : ∀ v t tk, bindP S false k v t tk = (some true, bindS S v t, k) := fun v t tk => by unfold bindP; rw [if_neg (by simp)]
  unfold oneP
  split
  · exact ⟨rfl, h, fun p hp => by cases hp⟩
  rename_i hne
  split
  · rename_i hk
    have hk' : (S.cells[fol S a]).k = 1 := by rw [ea]; exact hk
    rw [hbp]
    exact ⟨rfl, h.bind hS la lb fa fb hk' hne hr, fun p hp => by cases hp⟩
  rename_i hk1
  split
  · rename_i hk
    have hk' : (S.cells[fol S b]).k = 1 := by rw [eb]; exact hk
    rw [hbp]
    exact ⟨rfl, h.bind hS lb la fb fa hk' (Ne.symm hne) (h.symm _ _ hr), fun p hp => by cases hp⟩
  rename_i hk2
  have hc := h.cong _ _ la lb hr (by rw [ea]; exact hk1) (by rw [eb]; exact hk2)
  rw [ea, eb] at hc
  obtain ⟨e1, e2, e3, e4⟩ := hc
  rw [if_neg]
  · exact ⟨rfl, h, e4.zip⟩
  · rintro (e | e | e | e)
    · exact e e1
    · exact e e2
    · exact e e3
    · exact e e4.len
theorem uniP_sol {E : Nat → Nat → Prop} : ∀ (f k : Nat) (S : Sto) (l : List (Nat × Nat)), Inv S → InL S l → Sol S E → (∀ p ∈ l, E p.1 p.2) → ((uniP false f k S l).1 = some true ∧ Sol (uniP false f k S l).2.1 E) ∨ (uniP false f k S l).1 = none
  | 0, k, S, l, hS, hl, hE, hp => by
    unfold uniP
    split
    · exact .inl ⟨rfl, hE⟩
    · exact .inr rfl
  | f + 1, k, S, [], hS, hl, hE, hp => .inl ⟨rfl, hE⟩
  | f + 1, k, S, p :: l, hS, hl, hE, hp => by
    obtain ⟨h1, h2⟩ := hl p (List.mem_cons_self ..)
    have hx := oneP_ext hS (sf := false) (k := k - 1) h1 h2
    have hm := oneP_more hS (sf := false) (k := k - 1) h1 h2
    obtain ⟨g1, g2, g3⟩ := oneP_sol hE hS (k := k - 1) h1 h2 (hp p (List.mem_cons_self ..))
    unfold uniP
    dsimp only
    split
    · exact .inr rfl
    · split
      · rename_i S' k' e
        rw [e] at g2 hx
        refine uniP_sol f k' S' _ hx.inv (hl.next hm hx.len) g2 fun q hq => ?_
        rcases List.mem_append.1 hq with hq | hq
        · exact g3 q hq
        · exact hp q (List.mem_cons_of_mem _ hq)
      · rename_i hne
        exact (hne (oneP S false (k - 1) p.1 p.2).1.2.1 (oneP S false (k - 1) p.1 p.2).1.2.2 (Prod.ext g1 rfl)).elim
/-- being alike is a way out -/
theorem alike_sol {S T : Sto} (hS : Inv S) (h : Ext S T) : Sol S (fun x y => ∀ f, AlF T f x y) := by
  refine ⟨fun a b h f => (h f).symm, fun a b c h h' f => (h f).trans (h' f), fun x hx f => AlF.of_fol (h.folfol hS hx).symm f, fun x y hx hy hxy kx ky => ?_⟩
  obtain ⟨fx, cx⟩ := h.nvF hS hx kx
  obtain ⟨fy, cy⟩ := h.nvF hS hy ky
  have h1 := (hxy 1).1
  rw [fx, cx, fy, cy] at h1
  unfold shellC at h1
  rw [if_neg kx, if_neg ky] at h1
  simp only [Tm.mk.injEq, and_true] at h1
  refine ⟨h1.1, h1.2.1, h1.2.2, ?_⟩
  have hlen : Pw (fun _ _ => True) (S.cells[x]).args (S.cells[y]).args := by
    have := (hxy 1).2
    rw [cx, cy] at this
    exact this.imp fun _ _ _ _ _ => trivial
  have hall : ∀ f, Pw (AlF T f) (S.cells[x]).args (S.cells[y]).args := fun f => by
    have := (hxy (f + 1)).2
    rw [cx, cy] at this
    exact this
  have key : ∀ (l m : List Int), Pw (fun _ _ => True) l m → (∀ f, Pw (AlF T f) l m) → Pw (fun x y => ∀ f, AlF T f x y) l m := by
    intro l
    induction l with
    | nil => intro m h0 _; cases m with
      | nil => trivial
      | cons => exact h0.elim
    | cons a l ih => intro m h0 h; cases m with
      | nil => exact h0.elim
      | cons b m => exact ⟨fun f => (h f).1, ih m h0.2 fun f => (h f).2⟩
  exact key _ _ hlen hall
end Go.Proofs.Ytoklbeogmcdgaaa.Tms
