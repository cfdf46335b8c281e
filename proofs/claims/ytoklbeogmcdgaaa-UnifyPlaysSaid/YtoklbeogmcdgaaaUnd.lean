
/-
  Layer 9, plain: has, unify; what was made one reads alike to whatever depth; a way out in one order is one in any other; what Safely makes has an end.
  Layer 9: unify's run in memory; put, look, has, walked over the program.
  Layer 9: has, walked over the program.
  Layer 9: bind, one, walked over the program.
  Layer 9: all, begin, Unify, Safely, Has, walked over the program.
-/
import Derived.Test.YtoklbeogmcdgaaaGte
import Derived.Test.YtoklbeogmcdgaaaSlb
import Derived.Deep.QuietTactic
import Derived.BigQuiet
namespace Go.Proofs.Ytoklbeogmcdgaaa.Tms
open Go Go.RowKit Go.Proofs.Ytoklbeogmcdgaaa.Reg Go.Proofs.Ytoklbeogmcdgaaa.Rws Go.Proofs.Ytoklbeogmcdgaaa.Maps
set_option linter.unusedVariables false
set_option linter.unusedSimpArgs false

noncomputable def argN (S : Sto) (x : Nat) : List Nat := (cellF S x).args.map Int.toNat
/-- is v among the parts? So many may still be looked at; the parts that wait, the next one first -/
noncomputable def hasP (S : Sto) (v : Nat) : Nat → List Nat → Option Bool × Nat
  | 0, l => if l = [] then (some false, 0) else (none, 0)
  | k + 1, l => match l with
    | [] => (some false, k + 1)
    | c :: l => if fol S c = v then (some true, k) else hasP S v k (argN S c ++ l)
noncomputable def bindP (S : Sto) (sf : Bool) (k v t : Nat) (tk : Int) : Option Bool × Sto × Nat :=
  if sf = true ∧ tk ≠ 1 then (match (hasP S v k [t]).1 with
    | none => (none, S, (hasP S v k [t]).2)
    | some true => (some false, S, (hasP S v k [t]).2)
    | some false => (some true, bindS S v t, (hasP S v k [t]).2)) else (some true, bindS S v t, k)
noncomputable def oneP (S : Sto) (sf : Bool) (k a b : Nat) : (Option Bool × Sto × Nat) × List (Nat × Nat) :=
  if fol S a = fol S b then ((some true, S, k), []) else
  if (cellF S a).k = 1 then (bindP S sf k (fol S a) (fol S b) (cellF S b).k, []) else
  if (cellF S b).k = 1 then (bindP S sf k (fol S b) (fol S a) (cellF S a).k, []) else
  if (cellF S a).k ≠ (cellF S b).k ∨ (cellF S a).n ≠ (cellF S b).n ∨ (cellF S a).s ≠ (cellF S b).s ∨ (cellF S a).args.length ≠ (cellF S b).args.length then ((some false, S, k), []) else
  ((some true, S, k), (argN S a).zip (argN S b))
/-- all that waits: f is at least what may still be looked at -/
noncomputable def uniP (sf : Bool) : Nat → Nat → Sto → List (Nat × Nat) → Option Bool × Sto × Nat
  | 0, k, S, l => if l = [] then (some true, S, k) else (none, S, 0)
  | f + 1, k, S, l => match l with
    | [] => (some true, S, k)
    | p :: l => if k = 0 then (none, S, 0) else
      match (oneP S sf (k - 1) p.1 p.2).1 with
      | (some true, S', k') => uniP sf f k' S' ((oneP S sf (k - 1) p.1 p.2).2 ++ l)
      | r => r
theorem hasP_le (S : Sto) (v : Nat) : ∀ (k : Nat) (l : List Nat), (hasP S v k l).2 ≤ k
  | 0, l => by unfold hasP; split <;> exact Nat.le_refl _
  | k + 1, [] => Nat.le_refl _
  | k + 1, c :: l => by
    unfold hasP
    dsimp only
    split
    · exact Nat.le_succ _
    · have := hasP_le S v k (argN S c ++ l); omega
theorem bindP_le (S : Sto) (sf : Bool) (k v t : Nat) (tk : Int) : (bindP S sf k v t tk).2.2 ≤ k := by
  have := hasP_le S v k [t]
  unfold bindP
  split
  · split <;> exact this
  · exact Nat.le_refl _
theorem oneP_le (S : Sto) (sf : Bool) (k a b : Nat) : (oneP S sf k a b).1.2.2 ≤ k := by
  unfold oneP
  split
  · exact Nat.le_refl _
  split
  · exact bindP_le ..
  split
  · exact bindP_le ..
  split <;> exact Nat.le_refl _
/-! ### What a step leaves -/
/-- T was S, and some variables were bound -/
inductive Ext (S : Sto) : Sto → Prop
  | refl : Inv S → Ext S S
  | step {T : Sto} (v t : Nat) (h : Ext S T) (hI : Inv T) (hv : v < T.cells.length) (ht : t < T.cells.length) (hvl : (T.cells[v]).lk = -1) (htl : (T.cells[t]).lk = -1) (hk : (T.cells[v]).k = 1) (hne : v ≠ t) : Ext S (bindS T v t)
theorem Ext.inv {S T : Sto} (h : Ext S T) : Inv T := by
  cases h with
  | refl h => exact h
  | step v t h hI hv ht hvl htl hk hne => exact hI.bind hv ht hvl htl hk hne
theorem Ext.since {S T : Sto} (h : Ext S T) : Since S T := by
  induction h with
  | refl h => exact .refl
  | step v t h hI hv ht hvl htl hk hne ih => exact .step v t ih hv hvl
theorem Ext.trans {S T U : Sto} (h : Ext S T) (h' : Ext T U) : Ext S U := by
  induction h' with
  | refl _ => exact h
  | step v t _ hI hv ht hvl htl hk hne ih => exact .step v t ih hI hv ht hvl htl hk hne
theorem Ext.len {S T : Sto} (h : Ext S T) : T.cells.length = S.cells.length := h.since.len.1
theorem Inv.root {S : Sto} (h : Inv S) {x : Nat} (hx : x < S.cells.length) : ∃ hl : fol S x < S.cells.length, S.cells[fol S x] = cellF S x ∧ (S.cells[fol S x]).lk = -1 := by
  have hl := h.fol_lt hx
  refine ⟨hl, ?_, h.fol_free hx⟩
  unfold cellF
  rw [List.getElem?_eq_getElem hl]
  rfl
theorem Inv.nv {S : Sto} (h : Inv S) {x : Nat} (hx : x < S.cells.length) (hk : (S.cells[x]).k ≠ 1) : fol S x = x ∧ cellF S x = S.cells[x] := by
  have hl : (S.cells[x]).lk = -1 := by
    rcases (h.cell x _ (List.getElem?_eq_getElem hx)).lk with e | e
    · exact e
    · exact absurd e.2.2 hk
  have e := fol_root (List.getElem?_eq_getElem hx) hl
  refine ⟨e, ?_⟩
  unfold cellF
  rw [e, List.getElem?_eq_getElem hx]
  rfl
/-- a cell that is no variable stays as it is -/
theorem Ext.nv {S T : Sto} (h : Ext S T) {x : Nat} (hx : x < S.cells.length) (hk : (S.cells[x]).k ≠ 1) : T.cells[x]? = S.cells[x]? := by
  induction h with
  | refl _ => rfl
  | step v t h hI hv ht hvl htl hk' hne ih =>
    rw [bind_get hv, if_neg, ih]
    intro e
    subst e
    rw [List.getElem?_eq_getElem hv, List.getElem?_eq_getElem hx] at ih
    simp only [Option.some.injEq] at ih
    rw [ih] at hk'
    exact hk hk'
theorem Ext.nvF {S T : Sto} (h : Ext S T) (hS : Inv S) {x : Nat} (hx : x < S.cells.length) (hk : (S.cells[x]).k ≠ 1) : fol T x = x ∧ cellF T x = S.cells[x] := by
  have hx' : x < T.cells.length := by rw [h.len]; exact hx
  have e := h.nv hx hk
  rw [List.getElem?_eq_getElem hx, List.getElem?_eq_getElem hx'] at e
  simp only [Option.some.injEq] at e
  have := h.inv.nv hx' (by rw [e]; exact hk)
  rw [e] at this
  exact this
/-- what following made one stays one -/
theorem Ext.fol {S T : Sto} (h : Ext S T) {x y : Nat} (hx : x < S.cells.length) (hy : y < S.cells.length) (e : fol S x = fol S y) : fol T x = fol T y := by
  induction h with
  | refl _ => exact e
  | step v t h hI hv ht hvl htl hk hne ih =>
    have hl := h.len
    rw [fol_bind hI hv ht hvl htl hne (by omega), fol_bind hI hv ht hvl htl hne (by omega), ih]
/-- what a root is followed to later is what its variable is -/
theorem Ext.folfol {S T : Sto} (h : Ext S T) (hS : Inv S) {x : Nat} (hx : x < S.cells.length) : Tms.fol T (Tms.fol S x) = Tms.fol T x :=
  h.fol (hS.fol_lt hx) hx (hS.fol_fol hx)
theorem bindP_ext {S : Sto} (hS : Inv S) {sf : Bool} {k v t : Nat} {tk : Int} (hv : v < S.cells.length) (ht : t < S.cells.length) (hvl : (S.cells[v]).lk = -1) (htl : (S.cells[t]).lk = -1) (hk : (S.cells[v]).k = 1) (hne : v ≠ t) :
    ((bindP S sf k v t tk).1 = some true ∧ (bindP S sf k v t tk).2.1 = bindS S v t) ∨ ((bindP S sf k v t tk).1 ≠ some true ∧ (bindP S sf k v t tk).2.1 = S) := by
  unfold bindP
  split
  · split
    · exact .inr ⟨by simp, rfl⟩
    · exact .inr ⟨by simp, rfl⟩
    · exact .inl ⟨rfl, rfl⟩
  · exact .inl ⟨rfl, rfl⟩
theorem argN_mem {S : Sto} (hS : Inv S) {x y : Nat} (hx : x < S.cells.length) (h : y ∈ argN S x) : y < S.cells.length := by
  obtain ⟨hl, e, -⟩ := hS.root hx
  obtain ⟨a, ha, rfl⟩ := List.mem_map.1 h
  rw [← e] at ha
  have := (hS.cell _ _ (List.getElem?_eq_getElem hl)).args a ha
  omega
/-- the pairs that are put -/
theorem oneP_more {S : Sto} (hS : Inv S) {sf : Bool} {k a b : Nat} (ha : a < S.cells.length) (hb : b < S.cells.length) : ∀ p ∈ (oneP S sf k a b).2, p.1 < S.cells.length ∧ p.2 < S.cells.length := by
  unfold oneP
  split
  · intro p h; cases h
  split
  · intro p h; cases h
  split
  · intro p h; cases h
  split
  · intro p h; cases h
  · intro p h
    have := List.of_mem_zip (a := p.1) (b := p.2) h
    exact ⟨argN_mem hS ha this.1, argN_mem hS hb this.2⟩
theorem oneP_ext {S : Sto} (hS : Inv S) {sf : Bool} {k a b : Nat} (ha : a < S.cells.length) (hb : b < S.cells.length) : Ext S (oneP S sf k a b).1.2.1 := by
  obtain ⟨la, ea, fa⟩ := hS.root ha
  obtain ⟨lb, eb, fb⟩ := hS.root hb
  unfold oneP
  split
  · exact .refl hS
  rename_i hne
  split
  · rename_i hk
    have hk' : (S.cells[fol S a]).k = 1 := by rw [ea]; exact hk
    rcases bindP_ext hS (sf := sf) (k := k) (tk := (cellF S b).k) la lb fa fb hk' hne with ⟨-, e⟩ | ⟨-, e⟩
    · rw [e]; exact .step _ _ (.refl hS) hS la lb fa fb hk' hne
    · rw [e]; exact .refl hS
  split
  · rename_i hk
    have hk' : (S.cells[fol S b]).k = 1 := by rw [eb]; exact hk
    rcases bindP_ext hS (sf := sf) (k := k) (tk := (cellF S a).k) lb la fb fa hk' (Ne.symm hne) with ⟨-, e⟩ | ⟨-, e⟩
    · rw [e]; exact .step _ _ (.refl hS) hS lb la fb fa hk' (Ne.symm hne)
    · rw [e]; exact .refl hS
  split <;> exact .refl hS
def InL (S : Sto) (l : List (Nat × Nat)) : Prop := ∀ p ∈ l, p.1 < S.cells.length ∧ p.2 < S.cells.length
theorem InL.next {S T : Sto} {p : Nat × Nat} {m l : List (Nat × Nat)} (h : InL S (p :: l)) (hm : ∀ q ∈ m, q.1 < S.cells.length ∧ q.2 < S.cells.length) (e : T.cells.length = S.cells.length) : InL T (m ++ l) := by
  intro q hq
  rw [e]
  rcases List.mem_append.1 hq with hq | hq
  · exact hm q hq
  · exact h q (List.mem_cons_of_mem _ hq)
theorem uniP_ext (sf : Bool) : ∀ (f k : Nat) (S : Sto) (l : List (Nat × Nat)), Inv S → InL S l → Ext S (uniP sf f k S l).2.1
  | 0, k, S, l, hS, hl => by unfold uniP; split <;> exact .refl hS
  | f + 1, k, S, [], hS, hl => .refl hS
  | f + 1, k, S, p :: l, hS, hl => by
    obtain ⟨h1, h2⟩ := hl p (List.mem_cons_self ..)
    have hx := oneP_ext hS (sf := sf) (k := k - 1) h1 h2
    have hm := oneP_more hS (sf := sf) (k := k - 1) h1 h2
    unfold uniP
    dsimp only
    split
    · exact .refl hS
    · split
      · rename_i S' k' e
        rw [e] at hx
        exact hx.trans (uniP_ext sf f k' S' _ hx.inv (hl.next hm hx.len))
      · exact hx
/-! ### Alike to a depth -/
def Pw (R : Nat → Nat → Prop) : List Int → List Int → Prop
  | [], [] => True
  | a :: l, b :: m => R a.toNat b.toNat ∧ Pw R l m
  | _, _ => False
theorem Pw.imp {R R' : Nat → Nat → Prop} : ∀ {l m : List Int}, Pw R l m → (∀ a b, a ∈ l → b ∈ m → R a.toNat b.toNat → R' a.toNat b.toNat) → Pw R' l m
  | [], [], _, _ => trivial
  | a :: l, b :: m, h, hi => ⟨hi a b (List.mem_cons_self ..) (List.mem_cons_self ..) h.1, Pw.imp h.2 fun a b ha hb => hi a b (List.mem_cons_of_mem _ ha) (List.mem_cons_of_mem _ hb)⟩
  | [], _ :: _, h, _ => h.elim
  | _ :: _, [], h, _ => h.elim
theorem Pw.refl {R : Nat → Nat → Prop} (h : ∀ a, R a a) : ∀ l, Pw R l l
  | [] => trivial
  | a :: l => ⟨h _, Pw.refl h l⟩
theorem Pw.symm {R R' : Nat → Nat → Prop} (h : ∀ a b, R a b → R' b a) : ∀ {l m : List Int}, Pw R l m → Pw R' m l
  | [], [], _ => trivial
  | a :: l, b :: m, hp => ⟨h _ _ hp.1, Pw.symm h hp.2⟩
  | [], _ :: _, hp => hp.elim
  | _ :: _, [], hp => hp.elim
theorem Pw.trans {R R' R'' : Nat → Nat → Prop} (h : ∀ a b c, R a b → R' b c → R'' a c) : ∀ {l m n : List Int}, Pw R l m → Pw R' m n → Pw R'' l n
  | [], [], [], _, _ => trivial
  | a :: l, b :: m, c :: n, h1, h2 => ⟨h _ _ _ h1.1 h2.1, Pw.trans h h1.2 h2.2⟩
  | [], [], _ :: _, _, h2 => h2.elim
  | [], _ :: _, _, h1, _ => h1.elim
  | _ :: _, [], _, h1, _ => h1.elim
  | _ :: _, _ :: _, [], _, h2 => h2.elim
theorem Pw.len {R : Nat → Nat → Prop} : ∀ {l m : List Int}, Pw R l m → l.length = m.length
  | [], [], _ => rfl
  | a :: l, b :: m, h => by simp [Pw.len h.2]
  | [], _ :: _, h => h.elim
  | _ :: _, [], h => h.elim
theorem Pw.zip {R : Nat → Nat → Prop} : ∀ {l m : List Int}, Pw R l m → ∀ p ∈ (l.map Int.toNat).zip (m.map Int.toNat), R p.1 p.2
  | [], [], _, p, hp => by cases hp
  | a :: l, b :: m, h, p, hp => by
    simp only [List.map_cons, List.zip_cons_cons, List.mem_cons] at hp
    rcases hp with rfl | hp
    · exact h.1
    · exact Pw.zip h.2 p hp
  | [], _ :: _, h, _, _ => h.elim
  | _ :: _, [], h, _, _ => h.elim
/-- two cells read the same, so deep -/
def AlF (S : Sto) : Nat → Nat → Nat → Prop
  | 0, _, _ => True
  | f + 1, x, y => shellC (fol S x) (cellF S x) = shellC (fol S y) (cellF S y) ∧ Pw (AlF S f) (cellF S x).args (cellF S y).args
theorem AlF.refl (S : Sto) : ∀ (f x : Nat), AlF S f x x
  | 0, _ => trivial
  | f + 1, x => ⟨rfl, Pw.refl (AlF.refl S f) _⟩
theorem AlF.symm {S : Sto} : ∀ {f x y : Nat}, AlF S f x y → AlF S f y x
  | 0, _, _, _ => trivial
  | f + 1, _, _, h => ⟨h.1.symm, Pw.symm (fun _ _ => AlF.symm) h.2⟩
theorem AlF.trans {S : Sto} : ∀ {f x y z : Nat}, AlF S f x y → AlF S f y z → AlF S f x z
  | 0, _, _, _, _, _ => trivial
  | f + 1, _, _, _, h, h' => ⟨h.1.trans h'.1, Pw.trans (R := AlF S f) (R' := AlF S f) (R'' := AlF S f) (fun _ _ _ a b => AlF.trans a b) h.2 h'.2⟩
theorem gFold_pw {S : Sto} {f : Nat} (hg : ∀ x y n, AlF S f x y → getG S f x n = getG S f y n) : ∀ {l m : List Int} (st : List Tm × Int × Nat), Pw (AlF S f) l m → l.foldl (gStep (getG S f)) st = m.foldl (gStep (getG S f)) st
  | [], [], st, _ => rfl
  | a :: l, b :: m, st, h => by
    have e : gStep (getG S f) st a = gStep (getG S f) st b := by unfold gStep; rw [hg _ _ _ h.1]
    rw [List.foldl_cons, List.foldl_cons, e]
    exact gFold_pw hg _ h.2
  | [], _ :: _, _, h => h.elim
  | _ :: _, [], _, h => h.elim
theorem AlF.get {S : Sto} : ∀ (f x y n : Nat), AlF S f x y → getG S f x n = getG S f y n
  | 0, x, y, n, _ => rfl
  | f + 1, x, y, n, h => by
    rw [getG_succ, getG_succ, gFold_pw (fun x y n => AlF.get f x y n) _ h.2, h.1]
theorem hFold_pw {S : Sto} {f : Nat} (hg : ∀ x y, AlF S f x y → hgtF S f x = hgtF S f y) : ∀ {l m : List Int} (st : Option Nat), Pw (AlF S f) l m → l.foldl (hStep (hgtF S f)) st = m.foldl (hStep (hgtF S f)) st
  | [], [], st, _ => rfl
  | a :: l, b :: m, st, h => by
    have e : hStep (hgtF S f) st a = hStep (hgtF S f) st b := by unfold hStep; rw [hg _ _ h.1]
    rw [List.foldl_cons, List.foldl_cons, e]
    exact hFold_pw hg _ h.2
  | [], _ :: _, _, h => h.elim
  | _ :: _, [], _, h => h.elim
theorem AlF.hgt {S : Sto} : ∀ (f x y : Nat), AlF S f x y → hgtF S f x = hgtF S f y
  | 0, x, y, _ => rfl
  | f + 1, x, y, h => by
    simp only [hgtF]
    rw [hFold_pw (fun x y => AlF.hgt f x y) _ h.2]
/-! ### What was made one is alike -/
/-- pairs that are one cell, or hold the same, their Args being such pairs again -/
def Closed (S : Sto) (R : Nat → Nat → Prop) : Prop := ∀ a b, R a b → a < S.cells.length ∧ b < S.cells.length ∧ (fol S a = fol S b ∨ (cellF S a).k ≠ 1 ∧ (cellF S b).k ≠ 1 ∧ (cellF S a).k = (cellF S b).k ∧ (cellF S a).n = (cellF S b).n ∧ (cellF S a).s = (cellF S b).s ∧ Pw R (cellF S a).args (cellF S b).args)
theorem Ext.root_nv {S T : Sto} (h : Ext S T) (hS : Inv S) {x : Nat} (hx : x < S.cells.length) (hk : (cellF S x).k ≠ 1) : Tms.fol T x = Tms.fol S x ∧ cellF T x = cellF S x := by
  obtain ⟨hl, e, -⟩ := hS.root hx
  have h1 := h.nvF hS hl (by rw [e]; exact hk)
  have h2 := h.folfol hS hx
  rw [h1.1] at h2
  refine ⟨h2.symm, ?_⟩
  rw [← e, ← h1.2]
  unfold cellF
  rw [h1.1, h2]
theorem Closed.ext {S T : Sto} {R : Nat → Nat → Prop} (h : Closed S R) (hS : Inv S) (he : Ext S T) : Closed T R := by
  intro a b hr
  obtain ⟨ha, hb, h'⟩ := h a b hr
  refine ⟨by rw [he.len]; exact ha, by rw [he.len]; exact hb, ?_⟩
  rcases h' with e | ⟨k1, k2, e⟩
  · exact .inl (he.fol ha hb e)
  · rw [(he.root_nv hS ha k1).2, (he.root_nv hS hb k2).2]
    exact .inr ⟨k1, k2, e⟩
/-! ### A way out -/
/-- cells that may be one, all of them -/
structure Sol (S : Sto) (E : Nat → Nat → Prop) : Prop where
  symm : ∀ a b, E a b → E b a
  trans : ∀ a b c, E a b → E b c → E a c
  fol : ∀ x, x < S.cells.length → E x (fol S x)
  cong : ∀ x y (hx : x < S.cells.length) (hy : y < S.cells.length), E x y → (S.cells[x]).k ≠ 1 → (S.cells[y]).k ≠ 1 → (S.cells[x]).k = (S.cells[y]).k ∧ (S.cells[x]).n = (S.cells[y]).n ∧ (S.cells[x]).s = (S.cells[y]).s ∧ Pw E (S.cells[x]).args (S.cells[y]).args
theorem Sol.bind {S : Sto} {E : Nat → Nat → Prop} (h : Sol S E) (hS : Inv S) {v t : Nat} (hv : v < S.cells.length) (ht : t < S.cells.length) (hvl : (S.cells[v]).lk = -1) (htl : (S.cells[t]).lk = -1) (hk : (S.cells[v]).k = 1) (hne : v ≠ t) (hE : E v t) : Sol (bindS S v t) E := by
  have hl := bind_len (t := t) hv
  have cell : ∀ x (hx : x < (bindS S v t).cells.length) (hx' : x < S.cells.length), ((bindS S v t).cells[x]).k ≠ 1 → x ≠ v ∧ (bindS S v t).cells[x] = S.cells[x] := by
    intro x hx hx' hkx
    have hxv : x ≠ v := fun e => by
      subst e
      have h := bind_get (t := t) hv x
      rw [if_pos rfl, List.getElem?_eq_getElem hx] at h
      rw [Option.some.inj h] at hkx
      exact hkx hk
    exact ⟨hxv, bind_at hv hx' hxv hx⟩
  refine ⟨h.symm, h.trans, fun x hx => ?_, fun x y hx hy hxy kx ky => ?_⟩
  · rw [hl] at hx
    rw [fol_bind hS hv ht hvl htl hne hx]
    split
    · rename_i e
      exact h.trans _ _ _ (by have := h.fol x hx; rw [e] at this; exact this) hE
    · exact h.fol x hx
  · obtain ⟨-, ex⟩ := cell x hx (by omega) kx
    obtain ⟨-, ey⟩ := cell y hy (by omega) ky
    rw [ex] at kx ⊢
    rw [ey] at ky ⊢
    exact h.cong x y (by omega) (by omega) hxy kx ky
end Go.Proofs.Ytoklbeogmcdgaaa.Tms
namespace Go.Proofs.Ytoklbeogmcdgaaa.Tms
open Go Go.RowKit Go.Proofs.Ytoklbeogmcdgaaa.Reg Go.Proofs.Ytoklbeogmcdgaaa.Rws Go.Proofs.Ytoklbeogmcdgaaa.Maps
set_option linter.unusedVariables false
set_option linter.unusedSimpArgs false

def upKind : Rws.Kind (Int × Int) where
  T := 177
  sz := 2
  R := fun w P cs c => cs = [.int .i64 c.1, .int .i64 c.2]
  pos := by decide
  len := by rintro w P cs a rfl; rfl
  one := by
    rintro w P cs a rfl v hv
    simp only [List.mem_cons, List.not_mem_nil, or_false] at hv
    rcases hv with rfl | rfl <;> rfl
  mono := by rintro w w' P P' cs a hP hw rfl; rfl
  lt := by rintro w P cs a rfl; rfl
theorem info_up : (Try.prog.info? 177).map (fun i => (i.zero, i.size, i.bytes)) = some (some (.agg #[.int .i64 0, .int .i64 0]), 2, 16) := by kernel_rfl
def upI (p : Nat × Nat) : Int × Int := ((p.1 : Int), (p.2 : Int))
def upL (W : List (Nat × Nat)) : List (Int × Int) := (W.map upI).reverse
theorem upL_len (W : List (Nat × Nat)) : (upL W).length = W.length := by simp [upL]
theorem upL_cons (a b : Nat) (W : List (Nat × Nat)) : upL ((a, b) :: W) = upL W ++ [((a : Int), (b : Int))] := by simp [upL, upI]
abbrev ruO (p : Nat) (sf : Bool) (n : Int) (wv : Value) : Obj := .cells #[.pointer (some ⟨p, 0, none⟩), .bool sf, .int .i64 n, wv] 151 (0, 0)
/-- unify's run lies at rb: so many (k) may still be looked at, these pairs (W) wait, the next one first -/
structure RunAt (w0 : World) (p rb : Nat) (sf : Bool) (S : Sto) (D : Nat → Prop) (k : Nat) (W : List (Nat × Nat)) (wv : Value) (w : World) : Prop where
  law : Law8 w0 p S D w
  inv : Inv S
  row : w.heap[rb]? = some (ruO p sf (20000 - (k : Int)) wv)
  wait : Own upKind w w0.heap.size (fun _ => False) wv (upL W)
  kle : k ≤ 20000
  rn : ¬ D rb
  rge : w0.heap.size ≤ rb
  wn : ∀ b, wv.ownBlock = some b → ¬ D b ∧ b ≠ rb
/-- a block that is neither the store's nor the run's -/
def ROut (rb : Nat) (D : Nat → Prop) (wv : Value) (w : World) (b : Nat) : Prop := ¬ D b ∧ b ≠ rb ∧ wv.ownBlock ≠ some b ∧ b < w.heap.size
structure RStep (rb : Nat) (D : Nat → Prop) (wv : Value) (w : World) (D' : Nat → Prop) (wv' : Value) (w' : World) : Prop where
  size : w.heap.size ≤ w'.heap.size
  blk : ∀ b, ROut rb D wv w b → ROut rb D' wv' w' b ∧ w'.heap[b]? = w.heap[b]?
theorem RStep.refl (rb : Nat) (D : Nat → Prop) (wv : Value) (w : World) : RStep rb D wv w D wv w := ⟨Nat.le_refl _, fun b h => ⟨h, rfl⟩⟩
theorem RStep.trans {rb : Nat} {D D' D'' : Nat → Prop} {wv wv' wv'' : Value} {w w' w'' : World} (h : RStep rb D wv w D' wv' w') (h' : RStep rb D' wv' w' D'' wv'' w'') : RStep rb D wv w D'' wv'' w'' :=
  ⟨Nat.le_trans h.size h'.size, fun b hb => ⟨(h'.blk b (h.blk b hb).1).1, (h'.blk b (h.blk b hb).1).2.trans (h.blk b hb).2⟩⟩
theorem IntSl.rstep {rb : Nat} {D D' : Nat → Prop} {wv wv' : Value} {w w' : World} {v : Value} {L : List Int} (h : IntSl w (ROut rb D wv w) v L) (hs : RStep rb D wv w D' wv' w') : IntSl w' (ROut rb D' wv' w') v L :=
  h.move (fun b hb _ => (hs.blk b hb).1) fun b hb _ => (hs.blk b hb).2
section
variable {w0 w w' : World} {p rb k : Nat} {sf : Bool} {S S' : Sto} {D D' : Nat → Prop} {W : List (Nat × Nat)} {wv : Value}
theorem RunAt.lt (h : RunAt w0 p rb sf S D k W wv w) : rb < w.heap.size := (Array.getElem?_eq_some_iff.1 h.row).1
theorem RunAt.rfree (h : RunAt w0 p rb sf S D k W wv w) : Free D w rb := ⟨h.rn, h.lt⟩
theorem RunAt.wfree (h : RunAt w0 p rb sf S D k W wv w) {b : Nat} (hb : wv.ownBlock = some b) : Free D w b := ⟨(h.wn b hb).1, (h.wait.low b hb).2⟩
/-- the store turns -/
theorem RunAt.did (h : RunAt w0 p rb sf S D k W wv w) (hl : Law8 w0 p S' D' w') (hs : Step D w D' w') (hI : Inv S') : RunAt w0 p rb sf S' D' k W wv w' ∧ RStep rb D wv w D' wv w' :=
  ⟨⟨hl, hI, (hs.blk rb h.rfree).2.trans h.row, h.wait.keep hs.size fun b hb he => by
      rcases he with e | e
      · exact e.elim
      · exact (hs.blk b (h.wfree e)).2, h.kle, (hs.blk rb h.rfree).1.1, h.rge, fun b e => ⟨(hs.blk b (h.wfree e)).1.1, (h.wn b e).2⟩⟩,
    hs.size, fun b hb => ⟨⟨(hs.blk b ⟨hb.1, hb.2.2.2⟩).1.1, hb.2.1, hb.2.2.1, (hs.blk b ⟨hb.1, hb.2.2.2⟩).1.2⟩, (hs.blk b ⟨hb.1, hb.2.2.2⟩).2⟩⟩
/-- memory that is neither the store's nor the run's turns -/
theorem RunAt.keep (h : RunAt w0 p rb sf S D k W wv w) (hb : Below w0.heap.size w0 w') (hz : w.heap.size ≤ w'.heap.size) (hk : ∀ b, b < w.heap.size → D b ∨ b = rb ∨ wv.ownBlock = some b → w'.heap[b]? = w.heap[b]?) : RunAt w0 p rb sf S D k W wv w' :=
  ⟨⟨h.law.sto.keep hz fun b hlt hd => hk b hlt (.inl hd), h.law.own, hb⟩, h.inv, (hk rb h.lt (.inr (.inl rfl))).trans h.row, h.wait.keep hz fun b hlt he => hk b hlt (by
    rcases he with e | e
    · exact e.elim
    · exact .inr (.inr e)), h.kle, h.rn, h.rge, h.wn⟩
theorem RunAt.below (h : RunAt w0 p rb sf S D k W wv w) (hb : Below w.heap.size w w') : RunAt w0 p rb sf S D k W wv w' ∧ RStep rb D wv w D wv w' ∧ ∀ b, w.heap.size ≤ b → b < w'.heap.size → ROut rb D wv w' b := by
  obtain ⟨h1, h2, h3⟩ := h.law.below hb
  obtain ⟨g1, g2⟩ := h.did h1 h2 h.inv
  exact ⟨g1, g2, fun b hb1 hb2 => ⟨(h3 b hb1 hb2).1, fun e => by have := h.lt; omega, fun e => by have := (h.wait.low b e).2; omega, hb2⟩⟩
/-- a field of the run's row is written -/
theorem RunAt.set (h : RunAt w0 p rb sf S D k W wv w) {o k' : Nat} {v : Value} {W' : List (Nat × Nat)} {wv' : Value} (hrow : ∀ (h : (w.setCell ⟨rb, o, none⟩ v).heap[rb]? = some (.cells (#[.pointer (some ⟨p, 0, none⟩), .bool sf, .int .i64 (20000 - (k : Int)), wv].set! (0 + o) v) 151 (0, 0))), (w.setCell ⟨rb, o, none⟩ v).heap[rb]? = some (ruO p sf (20000 - (k' : Int)) wv'))
    (hw : Own upKind w w0.heap.size (fun _ => False) wv' (upL W')) (hk : k' ≤ 20000) (hn : ∀ b, wv'.ownBlock = some b → wv.ownBlock = some b) : RunAt w0 p rb sf S D k' W' wv' (w.setCell ⟨rb, o, none⟩ v) ∧ (∀ b, ROut rb D wv w b → ROut rb D wv' (w.setCell ⟨rb, o, none⟩ v) b ∧ (w.setCell ⟨rb, o, none⟩ v).heap[b]? = w.heap[b]?) ∧ Keeps w (w.setCell ⟨rb, o, none⟩ v) (fun b => b = rb) := by
  have hz : (w.setCell ⟨rb, o, none⟩ v).heap.size = w.heap.size := by simp [World.setCell]
  have hb : ∀ b, b ≠ rb → (w.setCell ⟨rb, o, none⟩ v).heap[b]? = w.heap[b]? := fun b hb => Below.heap_setCell _ _ _ _ hb
  have hr := heap_setCell_same w rb o _ _ v h.row
  refine ⟨⟨⟨h.law.sto.keep (by omega) fun b _ hd => hb b fun e => h.rn (e ▸ hd), h.law.own, h.law.bel.setCell h.rge _⟩, h.inv, hrow (by simpa using hr), hw.keep (by omega) fun b hlt he => hb b ?_, hk, h.rn, h.rge, fun b e => h.wn b (hn b e)⟩, fun b hb' => ⟨⟨hb'.1, hb'.2.1, fun e => hb'.2.2.1 (hn b e), by rw [hz]; exact hb'.2.2.2⟩, hb b hb'.2.1⟩, ⟨rfl, rfl, rfl, by omega, fun b _ he => hb b he⟩⟩
  rcases he with e | e
  · exact e.elim
  · exact (h.wn b (hn b e)).2
end
theorem row4r {w : World} {g : Nat} {y0 y1 y2 y3 : Value} {T : TypeId} {fr : Nat × Nat} (h : w.heap[g]? = some (.cells #[y0, y1, y2, y3] T fr)) :
    w.cell? ⟨g, 0, none⟩ = some y0 ∧ w.cell? ⟨g, 1, none⟩ = some y1 ∧ w.cell? ⟨g, 2, none⟩ = some y2 ∧ w.cell? ⟨g, 3, none⟩ = some y3 :=
  ⟨by simpa using cell_of_row w g 0 _ T fr h, by simpa using cell_of_row w g 1 _ T fr h, by simpa using cell_of_row w g 2 _ T fr h, by simpa using cell_of_row w g 3 _ T fr h⟩
/-- what a step of the run leaves -/
def RDid (w0 : World) (p rb : Nat) (sf : Bool) (D : Nat → Prop) (wv : Value) (w : World) (S' : Sto) (k' : Nat) (W' : List (Nat × Nat)) (w' : World) : Prop :=
  ∃ D' wv', RunAt w0 p rb sf S' D' k' W' wv' w' ∧ RStep rb D wv w D' wv' w'
/-- look: one more -/
theorem run_look {w0 w : World} {p rb k : Nat} {sf : Bool} {S : Sto} {D : Nat → Prop} {W : List (Nat × Nat)} {wv : Value} (h : RunAt w0 p rb sf S D (k + 1) W wv w) :
    Calls Try.prog 108 #[.pointer (some ⟨rb, 0, none⟩)] w fun e w' => e = .returned (.bool true) ∧ RunAt w0 p rb sf S D k W wv w' ∧ Keeps w w' (fun b => b = rb) := by
  obtain ⟨y0, y1, y2, y3⟩ := row4r h.row
  have hz := frozen_of_row _ rb 2 _ _ h.row
  have hk := h.kle
  have hset := h.set (o := 2) (k' := k) (v := .int .i64 (20000 - ((k + 1 : Nat) : Int) + 1)) (W' := W) (wv' := wv) (fun h => by
    rw [h, show (20000 - (k : Int)) = 20000 - ((k + 1 : Nat) : Int) + 1 by omega]; rfl) h.wait (by omega) fun b e => e
  have HS := Lib.hid hset
  have hx : ∃ n : Int, n = 20000 - ((k + 1 : Nat) : Int) ∧ 0 ≤ n ∧ n < 20000 := ⟨_, rfl, by omega, by omega⟩
  obtain ⟨n, hn, n0, n1⟩ := hx
  rw [← hn] at y2 HS
  have b1 : decide ((20000 : Int) ≤ n) = false := by simp; omega
  clear hset hn h hk
  go_enter Try.func108, Try.ntmps108
  go_wp2
  go_ret
  exact ⟨rfl, HS.out.1, HS.out.2.2⟩
theorem run_look_no {w0 w : World} {p rb : Nat} {sf : Bool} {S : Sto} {D : Nat → Prop} {W : List (Nat × Nat)} {wv : Value} (h : RunAt w0 p rb sf S D 0 W wv w) :
    Calls Try.prog 108 #[.pointer (some ⟨rb, 0, none⟩)] w fun e w' => e = .returned (.bool false) ∧ w = w' := by
  obtain ⟨y0, y1, y2, y3⟩ := row4r h.row
  replace y2 : w.cell? ⟨rb, 2, none⟩ = some (.int .i64 20000) := y2
  clear h
  go_enter Try.func108, Try.ntmps108
  go_wp2
  go_ret
  exact ⟨rfl, rfl⟩
set_option maxRecDepth 100000 in
set_option maxHeartbeats 4000000 in
theorem run_put {w0 w : World} {p rb k : Nat} {sf : Bool} {S : Sto} {D : Nat → Prop} {W : List (Nat × Nat)} {wv : Value} (h : RunAt w0 p rb sf S D k W wv w) (hW : W.length ≤ 1000000000) (a b : Nat) :
    Calls Try.prog 114 #[.pointer (some ⟨rb, 0, none⟩), .int .i64 a, .int .i64 b] w fun e w' => e = .returned (.tuple #[]) ∧ ∃ wv', RunAt w0 p rb sf S D k ((a, b) :: W) wv' w' ∧ RStep rb D wv w D wv' w' := by
  obtain ⟨y0, y1, y2, y3⟩ := row4r h.row
  have hbN := below_new w (.cells #[.int .i64 a, .int .i64 b] 177 (0, 0))
  have HRN := Lib.hid (heap_alloc_new w (.cells #[.int .i64 a, .int .i64 b] 177 (0, 0)))
  obtain ⟨h1, s1, -⟩ := h.below hbN
  have H1 := Lib.hid h1
  have S1 := Lib.hid s1
  have hbase : w0.heap.size ≤ w.heap.size := h.law.bel.size
  have hz1 : (w.alloc (.cells #[.int .i64 a, .int .i64 b] 177 (0, 0))).heap.size = w.heap.size + 1 := by simp
  have HLEN := Lib.hid (upL_len W)
  have hown := h1.wait
  have HOWN := Lib.hid hown
  obtain ⟨q, c, rfl⟩ := own_form hown
  rw [HLEN.out] at HOWN y3
  have HZ1 := Lib.hid hz1
  clear h h1 s1 hbN hown hz1
  go_enter Try.func114, Try.ntmps114
  go_wp2_with (with_reducible show wpList _ _ _ (⟨some 15, _, _, _, _, _⟩ :: _) _ _
               refine wpList_put (K := upKind) rfl (.tmp 10) (.tmp 14) _ rfl Try.underlying149 info_up rfl w0.heap.size (fun _ => False) (.slice q W.length c) (upL W) [.int .i64 a, .int .i64 b] ((a : Int), (b : Int)) _ _ _ _ rfl HOWN.out rfl HRN.out rfl (by rw [HLEN.out]; unfold maxLen; omega) (by rw [HLEN.out]; omega) (by rw [HZ1.out]; omega) ?_
               intro v3 w3 hown3 hb3 hg3 hv3
               obtain ⟨q9, c9, rfl⟩ : ∃ q9 c9, v3 = .slice q9 (W.length + 1) c9 := by
                 obtain ⟨q9, c9, e9⟩ := own_form hown3
                 exact ⟨q9, c9, by rw [e9]; simp [HLEN.out]⟩
               rw [← upL_cons] at hown3
               have h2 : RunAt w0 p rb sf S D k W (.slice q (upL W).length c) (w.alloc (.cells #[.int .i64 a, .int .i64 b] 177 (0, 0))) := H1.out
               have hg4 := hg3
               rw [← HLEN.out] at hg4
               have hrow3 := (hg4.block rb h2.lt fun e => (h2.wn rb e.symm).2 rfl).trans h2.row
               rw [HLEN.out] at hrow3
               obtain ⟨y0, y1, y2, y3⟩ := row4r hrow3
               have hz3 := frozen_of_row _ rb 3 _ _ hrow3
               have HRW := Lib.hid hrow3
               have HO3 := Lib.hid hown3
               have HB3 := Lib.hid hb3
               have HG3 := Lib.hid hg3
               have HV3 := Lib.hid hv3
               clear hown3 hb3 hg3 hv3 hrow3 h2 hg4)
  have h2 : RunAt w0 p rb sf S D k W (.slice q (upL W).length c) (w.alloc (.cells #[.int .i64 a, .int .i64 b] 177 (0, 0))) := H1.out
  have hg := HG3.out
  have hv := HV3.out
  have eo : (Value.slice q W.length c).ownBlock = (Value.slice q (upL W).length c).ownBlock := by rw [HLEN.out]
  rw [eo] at hg hv
  have hsz := hg.size
  have hz : (w3.setCell ⟨rb, 3, none⟩ (.slice q9 (W.length + 1) c9)).heap.size = w3.heap.size := by simp [World.setCell]
  have hkeep : ∀ x, x < (w.alloc (.cells #[.int .i64 a, .int .i64 b] 177 (0, 0))).heap.size → x ≠ rb → (Value.slice q (upL W).length c).ownBlock ≠ some x → (w3.setCell ⟨rb, 3, none⟩ (.slice q9 (W.length + 1) c9)).heap[x]? = (w.alloc (.cells #[.int .i64 a, .int .i64 b] 177 (0, 0))).heap[x]? := fun x hx h1 h2 => (Below.heap_setCell _ _ _ _ h1).trans (hg.block x hx fun e => h2 e.symm)
  have hnew : ∀ x, (Value.slice q9 (W.length + 1) c9).ownBlock = some x → ¬ D x ∧ x ≠ rb := fun x e => by
    rcases hv x e with e' | e'
    · exact h2.wn x e'
    · exact ⟨fun hd => by have := h2.law.dl x hd; omega, fun e2 => by have := h2.lt; omega⟩
  have hrow4 := heap_setCell_same w3 rb 3 _ _ (.slice q9 (W.length + 1) c9) HRW.out
  refine ⟨rfl, .tuple #[], by simp [results, Try.results114, go_sem], rfl, _, ⟨⟨h2.law.sto.keep (by omega) fun x hx hd => hkeep x hx (fun e => h2.rn (e ▸ hd)) fun e => (h2.wn x e).1 hd, h2.law.own, ?_⟩, h2.inv, by simpa using hrow4, HO3.out.keep (by omega) fun x _ he => ?_, h2.kle, h2.rn, h2.rge, hnew⟩, ?_⟩
  · exact (h2.law.bel.grown hg (by rw [HZ1.out]; omega) fun x e => (h2.wait.low x e).1).setCell h2.rge _
  · rcases he with e | e
    · exact e.elim
    · exact Below.heap_setCell _ _ _ _ (hnew x e).2
  · have s1 : RStep rb D (.slice q (upL W).length c) w D (.slice q (upL W).length c) (w.alloc (.cells #[.int .i64 a, .int .i64 b] 177 (0, 0))) := S1.out
    exact s1.trans ⟨by omega, fun x hx => ⟨⟨hx.1, hx.2.1, fun e => by
      rcases hv x e with e' | e'
      · exact hx.2.2.1 e'
      · have := hx.2.2.2; omega, by have := hx.2.2.2; omega⟩, hkeep x hx.2.2.2 hx.2.1 hx.2.2.1⟩⟩
end Go.Proofs.Ytoklbeogmcdgaaa.Tms
namespace Go.Proofs.Ytoklbeogmcdgaaa.Tms
open Go Go.RowKit Go.Proofs.Ytoklbeogmcdgaaa.Reg Go.Proofs.Ytoklbeogmcdgaaa.Rws Go.Proofs.Ytoklbeogmcdgaaa.Maps
set_option linter.unusedVariables false
set_option linter.unusedSimpArgs false

def revI (l : List Nat) : List Int := (l.map fun x => ((x : Nat) : Int)).reverse
theorem revI_len (l : List Nat) : (revI l).length = l.length := by simp [revI]
theorem revI_cons (x : Nat) (l : List Nat) : revI (x :: l) = revI l ++ [(x : Int)] := by simp [revI]
/-- what is left of has -/
structure HasAt (w0 : World) (p rb : Nat) (sf : Bool) (S : Sto) (D : Nat → Prop) (W : List (Nat × Nat)) (wv : Value) (w : World) (v at_ k0 : Nat) (j : Nat) (l : List Nat) (lv : Value) (wr : World) : Prop where
  run : RunAt w0 p rb sf S D j W wv wr
  own : Own iKind wr w.heap.size (fun _ => False) lv (revI l)
  kp : Keeps w wr (fun b => b = rb)
  eq : hasP S v k0 [at_] = hasP S v j l
  inn : ∀ c ∈ l, c < S.cells.length
  len : l.length ≤ 1 + 255 * (20000 - j)
def HasRel (w0 : World) (p rb : Nat) (sf : Bool) (S : Sto) (D : Nat → Prop) (W : List (Nat × Nat)) (wv : Value) (w : World) (v at_ k0 : Nat) (j : Nat) (v8 : Value) (wr : World) : Prop := ∃ l, HasAt w0 p rb sf S D W wv w v at_ k0 j l v8 wr
/-- what has tells -/
def hasB (r : Option Bool) : Bool := r == some true
def hasE (r : Option Bool) : Int := if r = none then 16 else 0
/-- the inner loop: the Args from m on are put -/
structure HiAt (w0 : World) (p rb : Nat) (sf : Bool) (S : Sto) (D : Nat → Prop) (W : List (Nat × Nat)) (wv : Value) (w : World) (z0 z1 : Nat) (av : Value) (A : List Int) (l : List Nat) (j m : Nat) (lv : Value) (wr : World) : Prop where
  run : RunAt w0 p rb sf S D j W wv wr
  own : Own iKind wr w.heap.size (fun _ => False) lv (revI ((A.map Int.toNat).drop m ++ l))
  kp : Keeps w wr (fun b => b = rb)
  far : ∀ b, lv.ownBlock = some b → b < z0 ∨ z1 ≤ b
  arg : IntSl wr (fun b => z0 ≤ b ∧ b < z1) av A
  siz : z1 ≤ wr.heap.size
def HiRel (w0 : World) (p rb : Nat) (sf : Bool) (S : Sto) (D : Nat → Prop) (W : List (Nat × Nat)) (wv : Value) (w : World) (z0 z1 : Nat) (av : Value) (A : List Int) (l : List Nat) (j : Nat) (v12 v8 : Value) (wr : World) : Prop := ∃ m, m ≤ A.length ∧ v12 = .int .i64 ((m : Int) - 1) ∧ HiAt w0 p rb sf S D W wv w z0 z1 av A l j m v8 wr
theorem HasAt.pop {w0 w wr : World} {p rb k0 j v at_ g n cap : Nat} {sf : Bool} {S : Sto} {D : Nat → Prop} {W : List (Nat × Nat)} {wv : Value} {c : Nat} {l : List Nat} (h : HasAt w0 p rb sf S D W wv w v at_ k0 j (c :: l) (.slice (some ⟨g, 0, none⟩) n cap) wr) :
    n = l.length + 1 ∧ n ≤ cap ∧ cap ≤ maxLen ∧ wr.cell? ⟨g, l.length, none⟩ = some (.int .i64 c) ∧ Own iKind wr w.heap.size (fun _ => False) (.slice (some ⟨g, 0, none⟩) l.length cap) (revI l) := by
  have ho := h.own
  rw [revI_cons] at ho
  have hn : n = l.length + 1 := by
    obtain ⟨q, c', e⟩ := own_form ho
    simp only [Value.slice.injEq] at e
    have := e.2.1
    simpa [revI_len] using this
  subst hn
  obtain ⟨h1, h2, h3, cs, rfl, hc⟩ := ho.pop (revI_len l)
  have h0 := hc 0 (by decide)
  have e2 : l.length * iKind.sz + 0 = l.length := Nat.mul_one _
  rw [e2] at h0
  exact ⟨rfl, h2, h3, h0, h1⟩
theorem HiAt.put {w0 w wr w3 : World} {p rb j m z0 z1 : Nat} {sf : Bool} {S : Sto} {D : Nat → Prop} {W : List (Nat × Nat)} {wv av lv lv3 : Value} {A : List Int} {l : List Nat} {o : Obj} (h : HiAt w0 p rb sf S D W wv w z0 z1 av A l j (m + 1) lv wr) (hm : m < A.length) (h0 : 0 ≤ A[m])
    (ho : Own iKind w3 w.heap.size (fun _ => False) lv3 (revI ((A.map Int.toNat).drop (m + 1) ++ l) ++ [A[m]])) (hg : (wr.alloc o).grownBy w3 lv.ownBlock) (hv : ∀ k, lv3.ownBlock = some k → lv.ownBlock = some k ∨ (wr.alloc o).heap.size ≤ k) (hd : ∀ b, D b → b < w.heap.size) (hrb : rb < w.heap.size) (hwv : ∀ b, wv.ownBlock = some b → b < w.heap.size) (hw0 : w0.heap.size ≤ w.heap.size) :
    HiAt w0 p rb sf S D W wv w z0 z1 av A l j m lv3 w3 := by
  have hz : (wr.alloc o).heap.size = wr.heap.size + 1 := by simp
  have hz3 := hg.size
  have hlow := h.own.low
  have hblk : ∀ b, b < wr.heap.size → lv.ownBlock ≠ some b → w3.heap[b]? = wr.heap[b]? := fun b hb hn => (hg.block b (by omega) fun e => hn e.symm).trans (Below.heap_alloc wr o b hb)
  have hwz := h.kp.size
  have hdrop : (A.map Int.toNat).drop m ++ l = (A[m]).toNat :: ((A.map Int.toNat).drop (m + 1) ++ l) := by
    rw [List.drop_eq_getElem_cons (by simpa using hm)]
    simp
  refine ⟨h.run.keep ?_ (by omega) fun b hb he => hblk b hb fun e => ?_, ?_, ?_, fun b e => ?_, h.arg.move (fun b hb _ => hb) fun b hb hlt => hblk b hlt fun e => ?_, by have := h.siz; omega⟩
  · exact (h.run.law.bel.alloc h.run.law.bel.size o).grown hg (by have := h.run.law.bel.size; omega) fun b e => by have := (hlow b e).1; omega
  · have := (hlow b e).1
    rcases he with e' | e' | e'
    · have := hd b e'; omega
    · omega
    · have := hwv b e'; omega
  · rw [hdrop, revI_cons, Int.toNat_of_nonneg h0]
    exact ho
  · exact ⟨hg.os.trans h.kp.os, hg.tape.trans h.kp.tape, hg.output.trans h.kp.output, by omega, fun b hlt hb => (hblk b (by omega) fun e => by have := (hlow b e).1; omega).trans (h.kp.block b hlt hb)⟩
  · rcases hv b e with e' | e'
    · exact h.far b e'
    · have := h.siz; exact .inr (by omega)
  · have := h.far b e; omega
set_option maxRecDepth 100000 in
set_option maxHeartbeats 8000000 in
theorem run_has {w0 w : World} {p rb k0 : Nat} {sf : Bool} {S : Sto} {D : Nat → Prop} {W : List (Nat × Nat)} {wv : Value} (h : RunAt w0 p rb sf S D k0 W wv w) (v at_ : Nat) (ha : at_ < S.cells.length) :
    Calls Try.prog 93 #[.pointer (some ⟨rb, 0, none⟩), .int .i64 v, .int .i64 at_] w fun e w' => e = .returned (.tuple #[.bool (hasB (hasP S v k0 [at_]).1), .int .i64 (hasE (hasP S v k0 [at_]).1)]) ∧ RunAt w0 p rb sf S D (hasP S v k0 [at_]).2 W wv w' ∧ Keeps w w' (fun b => b = rb) := by
  have hbN := below_new w (.cells #[.int .i64 at_] 3 (0, 0))
  have hrN := heap_alloc_new w (.cells #[.int .i64 at_] 3 (0, 0))
  have hst : HasRel w0 p rb sf S D W wv w v at_ k0 k0 (.slice (some ⟨w.heap.size, 0, none⟩) 1 1) (w.alloc (.cells #[.int .i64 at_] 3 (0, 0))) := by
    refine ⟨[at_], (h.below hbN).1, ?_, Keeps.of hbN, rfl, fun c hc => by simp only [List.mem_singleton] at hc; omega, by simp⟩
    refine ⟨[[.int .i64 at_]], ⟨rfl, .inr ⟨w.heap.size, 1, #[.int .i64 at_], rfl, Nat.le_refl _, hrN, Nat.le_refl _, by unfold maxLen; omega, rfl, rfl⟩⟩, ⟨rfl, trivial⟩⟩
  have HST := Lib.hid hst
  have hdl := h.law.dl
  have hrl := h.lt
  have hwl : ∀ b, wv.ownBlock = some b → b < w.heap.size := fun b e => (h.wait.low b e).2
  have hw0 := h.law.bel.size
  have HI := Lib.hid h.inv
  have HDL := Lib.hid hdl
  have HWL := Lib.hid hwl
  have hsm := h.inv.small
  clear hst hbN hrN h hdl hwl
  go_enter Try.func93, Try.ntmps93
  go_wp2
  go_loopg [8] k0 (fun j v8 wr => HasRel w0 p rb sf S D W wv w v at_ k0 j v8 wr)
  case atStart => exact HST.out
  case round =>
    clear HST
    obtain ⟨l, hat⟩ := hrel
    have hlen := hat.len
    have hkl := hat.run.kle
    obtain ⟨q, c8, e8⟩ := own_form hat.own
    rw [revI_len] at e8
    subst e8
    cases l with
    | nil =>
      have b1 : decide ((0 : Int) < ((0 : Nat) : Int)) = false := by simp
      have heq := hat.eq
      have hr : hasP S v k0 [at_] = (some false, gk) := by rw [heq]; cases gk <;> rfl
      have HR := Lib.hid hr
      have HAT := Lib.hid hat
      clear heq hr hat
      go_wp2
      go_ret2
      rw [HR.out]
      exact ⟨rfl, HAT.out.run, HAT.out.kp⟩
    | cons c l =>
      obtain ⟨g, rfl⟩ : ∃ g, q = some ⟨g, 0, none⟩ := by
        rcases hat.own.form with ⟨-, e⟩ | ⟨g, c', e⟩
        · have := congrArg List.length e; simp [revI] at this
        · simp only [Value.slice.injEq] at e; exact ⟨g, e.1⟩
      obtain ⟨-, hc1, hc2, hcell, hown⟩ := hat.pop
      simp only [List.length_cons] at hlen hat hc1
      simp only [List.length_cons]
      have hcn : c < S.cells.length := hat.inn c (List.mem_cons_self ..)
      obtain ⟨fc, hch, hcf⟩ := HI.out.stoIn.fol hcn
      have hl0 : (0 : Int) ≤ (l.length : Int) := by omega
      have hl1 : l.length ≤ 10000000 := by omega
      have b1 : decide ((0 : Int) < (l.length : Int) + 1) = true := by simp
      unfold maxLen at hc2
      obtain ⟨y0, y1, y2, y3⟩ := row4r hat.run.row
      have HAT := Lib.hid hat
      have HCH := Lib.hid hch
      have HCF := Lib.hid hcf
      have HOWN := Lib.hid hown
      clear hat hch hcf hown
      obtain ⟨n, hn⟩ : ∃ n : Nat, n = l.length := ⟨_, rfl⟩
      rw [← hn] at hcell hl0 hl1 b1 hc1 HOWN ⊢
      have HN := Lib.hid hn
      clear hn hlen
      go_wp2
      refine wp_region_rest (by kernel_rfl) ?_
      have hdr : Below wr.heap.size wr wr.drew := (Below.refl _ _).drew
      have HRUN := Lib.hid (HAT.out.run.below hdr).1
      have HKP := Lib.hid (HAT.out.kp.trans (Keeps.of hdr) (M' := fun _ => False) fun b h => h.elim)
      have hown2 := HOWN.out.below hdr
      have HOWN2 := Lib.hid hown2
      have y0' : wr.drew.cell? ⟨rb, 0, none⟩ = _ := y0
      have hcell' : wr.drew.cell? ⟨g, n, none⟩ = _ := hcell
      clear hdr hown2 y0 y1 y2 y3 hcell HOWN
      generalize wr.drew = W0 at *
      refine rest_chainP (fun u => u = W0) 0 10 (.soft 0 (.soft 1 (.soft 2 (.soft 3 (.soft 4 (.soft 5 (.soft 6 (.soft 7 (.soft 8 (.soft 9 .nil)))))))))) (.soft _ (.soft _ (.soft _ (.soft _ (.soft _ (.soft _ (.soft _ (.soft _ (.soft _ (.soft _ .nil)))))))))) ⟨rfl, ⟨rfl, ⟨rfl, ⟨rfl, ⟨rfl, ⟨rfl, ⟨rfl, ⟨rfl, ⟨rfl, ⟨rfl, trivial⟩⟩⟩⟩⟩⟩⟩⟩⟩⟩ (by kernel_rfl) (by kernel_rfl) (by kernel_rfl) (by kernel_rfl) (.inr (by kernel_rfl)) rfl ?_
      refine chainP_soft (a1 := ?ma1) (by kernel_rfl) (by kernel_rfl) ?mh1 ?mr1
      case mh1 =>
        intro u hu E hE
        subst hu
        go_wp2
        rfl
      refine chainP_nck _ _ rfl rfl rfl ?_
      simp only [Act.put, List.getElem?_toArray, List.getElem?_cons_succ, List.getElem?_cons_zero, Option.bind_some, List.setIfInBounds_toArray, List.set_cons_succ, List.set_cons_zero, Nat.reduceAdd]
      refine chainP_soft (a1 := ?ma2) (by kernel_rfl) (by kernel_rfl) ?mh2 ?mr2
      case mh2 =>
        intro u hu E hE
        subst hu
        go_wp2
        rfl
      refine chainP_soft (a1 := ?ma3) (by kernel_rfl) (by kernel_rfl) ?mh3 ?mr3
      case mh3 =>
        intro u hu E hE
        subst hu
        go_wp2
        rfl
      refine chainP_soft (a1 := ?ma4) (by kernel_rfl) (by kernel_rfl) ?mh4 ?mr4
      case mh4 =>
        intro u hu E hE
        subst hu
        go_wp2
        rfl
      refine chainP_soft (a1 := ?ma5) (by kernel_rfl) (by kernel_rfl) ?mh5 ?mr5
      case mh5 =>
        intro u hu E hE
        subst hu
        go_wp2
        rfl
      refine chainP_soft (a1 := ?ma6) (by kernel_rfl) (by kernel_rfl) ?mh6 ?mr6
      case mh6 =>
        intro u hu E hE
        subst hu
        go_wp2
        rfl
      refine chainP_soft (a1 := ?ma7) (by kernel_rfl) (by kernel_rfl) ?mh7 ?mr7
      case mh7 =>
        intro u hu E hE
        subst hu
        go_wp2
        rfl
      refine chainP_soft (a1 := ?ma8) (by kernel_rfl) (by kernel_rfl) ?mh8 ?mr8
      case mh8 =>
        intro u hu E hE
        subst hu
        go_wp2
        rfl
      refine chainP_soft (a1 := ?ma9) (by kernel_rfl) (by kernel_rfl) ?mh9 ?mr9
      case mh9 =>
        intro u hu E hE
        subst hu
        go_wp2
        rfl
      refine chainP_nil ?_
      refine rest_lineL 10 12 [_, _] rfl (by kernel_rfl) (by decide) (by decide) (by kernel_rfl) ?_
      go_wp2_with fail
      refine (sto_Follow W0 HRUN.out.law.sto fc c _ HCH.out).mono ?_
      rintro e1 w1 ⟨rfl, rfl⟩
      go_wp2
      refine then_rest (rest_end (by decide) ?_)
      clear y0' hcell'
      have hjl : gk ≤ 20000 := HAT.out.run.kle
      cases gk with
      | zero =>
        have hr : hasP S v k0 [at_] = (none, 0) := by rw [HAT.out.eq]; rfl
        have HR := Lib.hid hr
        clear hr
        go_wp2_with fail
        refine (run_look_no HRUN.out).mono ?_
        rintro e2 w2 ⟨rfl, rfl⟩
        go_wp2
        go_ret2
        rw [HR.out]
        exact ⟨rfl, HRUN.out, HKP.out⟩
      | succ j =>
        go_wp2_with fail
        refine (run_look HRUN.out).mono ?_
        rintro e2 w2 ⟨rfl, hrun2, hk2⟩
        have HRUN2 := Lib.hid hrun2
        have HKP2 := Lib.hid (HKP.out.trans hk2 fun b hb => .inl hb)
        have hgb := (HOWN2.out.low g rfl).1
        have hown3 := HOWN2.out.keep hk2.size fun b hb he => hk2.block b hb (by
          rcases he with e | e
          · exact e.elim
          · have := (HOWN2.out.low b e).1; omega)
        have HOWN3 := Lib.hid hown3
        clear hrun2 hk2 hown3 HOWN2 HRUN HKP
        have hco : hasP S v k0 [at_] = if fol S c = v then (some true, j) else hasP S v j (argN S c ++ l) := by rw [HAT.out.eq]; rfl
        by_cases hcv : fol S c = v
        · rw [if_pos hcv] at hco
          have HR := Lib.hid hco
          have b2 : ((fol S c : Int) == (v : Int)) = true := by simp; omega
          clear hco hcv
          go_wp2
          go_ret2
          rw [HR.out]
          exact ⟨rfl, HRUN2.out, HKP2.out⟩
        · rw [if_neg hcv] at hco
          have HR := Lib.hid hco
          have b2 : ((fol S c : Int) == (v : Int)) = false := by simp; omega
          have hcr := cellF_root HI.out.stoIn (HAT.out.inn c (List.mem_cons_self ..))
          have hrlt := HI.out.fol_lt (HAT.out.inn c (List.mem_cons_self ..))
          have hcell2 := HI.out.cell _ _ HCF.out
          have hch2 : Ch S 0 (fol S c) (fol S c) := ⟨HCH.out.end_.1, HCH.out.end_.2, rfl⟩
          obtain ⟨y0, y1, y2, y3⟩ := row4r HRUN2.out.row
          have HCH2 := Lib.hid hch2
          have HC2 := Lib.hid hcell2
          have harg : argN S c = (cellF S c).args.map Int.toNat := rfl
          obtain ⟨R, hR⟩ : ∃ R, R = fol S c := ⟨_, rfl⟩
          obtain ⟨C, hC⟩ : ∃ C, C = cellF S c := ⟨_, rfl⟩
          rw [← hR, ← hC] at HCF
          rw [← hR] at HCH2 hrlt b2 ⊢
          rw [← hC] at HC2 harg
          have HARG := Lib.hid harg
          have hal := HC2.out.len
          have HAR := Lib.hid HC2.out.args
          clear hco hcv hcr hcell2 hch2 harg hR hC
          go_wp2_with fail
          refine (sto_Look w2 HRUN2.out.law.sto 0 R R C HCH2.out HCF.out (by omega) (by omega)).mono ?_
          rintro e3 w3 ⟨av, rfl, hav, hb3⟩
          have hsz := HKP2.out.size
          have hz0 : w2.heap.size ≤ w3.heap.size := hb3.size
          have hgl := (HOWN3.out.low g rfl).2
          have hb4 := below_new w3 (.cells #[.int .i64 (shellC R C).k, .int .i64 (shellC R C).n, .string (shellC R C).s, .slice none 0 0] 33 (0, 0))
          have hin : HiRel w0 p rb sf S D W wv w w2.heap.size w3.heap.size av C.args l j (.int .i64 ((C.args.length : Int) - 1)) (.slice (some ⟨g, 0, none⟩) n c8) (w3.alloc (.cells #[.int .i64 (shellC R C).k, .int .i64 (shellC R C).n, .string (shellC R C).s, .slice none 0 0] 33 (0, 0))) := by
            refine ⟨C.args.length, Nat.le_refl _, rfl, (((HRUN2.out.below hb3).1).below hb4).1, ?_, ((HKP2.out.trans (Keeps.of hb3) (M' := fun _ => False) fun b h => h.elim).trans (Keeps.of hb4) (M' := fun _ => False) fun b h => h.elim), fun b e => ?_, (hav.low.move (fun b hb _ => hb) fun _ _ _ => rfl).move (fun b hb _ => hb) fun b hb hlt => hb4.block b hlt, hb4.size⟩
            · rw [List.drop_of_length_le (by simp), List.nil_append]
              exact (HOWN3.out.below hb3).below hb4
            · left
              simp only [Value.ownBlock, Option.some.injEq] at e
              omega
          have HIN := Lib.hid hin
          obtain ⟨qa, ca, rfl⟩ := hav.form
          clear hb3 hb4 hin hav y0 y1 y2 y3
          go_wp2
          obtain ⟨wo, rfl⟩ : ∃ wo : World, wo = wr := ⟨_, rfl⟩
          go_loopw [12, 8] (fun v12 v8 wr => HiRel w0 p rb sf S D W wv w w2.heap.size w3.heap.size (.slice qa C.args.length ca) C.args l j v12 v8 wr) (fun v12 _ _ => (intOf v12 + 1).toNat)
          case atStart => exact HIN.out
          case round =>
            clear HIN
            obtain ⟨m, hm, rfl, hat2⟩ := hrel
            obtain ⟨q8, c8', e8⟩ := own_form hat2.own
            rw [revI_len, List.length_append, List.length_drop, List.length_map] at e8
            subst e8
            have HAT2 := Lib.hid hat2
            clear hat2
            cases m with
            | zero =>
              have b3 : decide ((0 : Int) ≤ ((0 : Nat) : Int) - 1) = false := by simp
              have hrel : HasRel w0 p rb sf S D W wv w v at_ k0 j (.slice q8 (C.args.length - 0 + l.length) c8') wr := by
                refine ⟨argN S c ++ l, HAT2.out.run, ?_, HAT2.out.kp, HR.out, fun x hx => ?_, ?_⟩
                · have := HAT2.out.own
                  rw [List.drop_zero, ← HARG.out] at this
                  exact this
                · rcases List.mem_append.1 hx with hx | hx
                  · rw [HARG.out] at hx
                    obtain ⟨a, ha, rfl⟩ := List.mem_map.1 hx
                    have := HAR.out a ha
                    omega
                  · exact HAT.out.inn x (List.mem_cons_of_mem _ hx)
                · have := HAT.out.len
                  rw [List.length_append, HARG.out, List.length_map]
                  simp only [List.length_cons] at this
                  omega
              have HREL := Lib.hid hrel
              clear hrel
              go_wp2
              go_roundg j
              case measure => omega
              case rel => exact HREL.out
            | succ m =>
              obtain ⟨ba, oa, rfl, hba, hbl, hca⟩ := (show ∃ b off, qa = some ⟨b, off, none⟩ ∧ (w2.heap.size ≤ b ∧ b < w3.heap.size) ∧ b < wr.heap.size ∧ wr.cell? ⟨b, off + m, none⟩ = some (.int .i64 C.args[m]) by
                obtain ⟨a', ac', he, -, -, hel⟩ := HAT2.out.arg
                obtain ⟨b, off, e1, h1, h2, h3⟩ := hel m hm
                simp only [Value.slice.injEq] at he
                exact ⟨b, off, by rw [he.1]; exact e1, h1, h2, h3⟩)
              have hcap : C.args.length ≤ ca ∧ ca ≤ maxLen := by
                obtain ⟨a', ac', he, h1, h2, -⟩ := HAT2.out.arg
                simp only [Value.slice.injEq] at he
                rw [he.2.2]
                exact ⟨h1, h2⟩
              have hca2 := hcap.1
              obtain ⟨x, hx⟩ : ∃ x, x = C.args[m] := ⟨_, rfl⟩
              rw [← hx] at hca
              have HX := Lib.hid hx
              have hx0 : 0 ≤ C.args[m] := (HAR.out _ (List.getElem_mem hm)).1
              have HX0 := Lib.hid hx0
              have e1 : ((m + 1 : Nat) : Int) - 1 = (m : Int) := by omega
              rw [e1]
              have b3 : decide ((0 : Int) ≤ (m : Int)) = true := by simp
              have hbx := below_new wr (.cells #[.int .i64 x] 3 (0, 0))
              have HRX := Lib.hid (heap_alloc_new wr (.cells #[.int .i64 x] 3 (0, 0)))
              have HOX := Lib.hid (HAT2.out.own.below hbx)
              have hzx : (wr.alloc (.cells #[.int .i64 x] 3 (0, 0))).heap.size = wr.heap.size + 1 := by simp
              have HZX := Lib.hid hzx
              have hwsz : w.heap.size ≤ wr.heap.size := HAT2.out.kp.size
              have hll := HAT.out.len
              simp only [List.length_cons] at hll
              obtain ⟨N, hN⟩ : ∃ N, N = C.args.length - (m + 1) + l.length := ⟨_, rfl⟩
              have hN1 : N ≤ 20000000 := by omega
              have hlen : (revI ((C.args.map Int.toNat).drop (m + 1) ++ l)).length = N := by rw [revI_len, List.length_append, List.length_drop, List.length_map, hN]
              rw [← hN] at HAT2 HOX ⊢
              have HLEN := Lib.hid hlen
              have HNN := Lib.hid hN
              have hm1 : (m : Int) < (C.args.length : Int) := by omega
              clear hx hx0 hbx hzx hlen hN hcap hba hbl hll
              go_wp2_with (with_reducible show wpList _ _ _ (⟨some 62, _, _, _, _, _⟩ :: _) _ _
                           refine wpList_put (K := iKind) rfl (.tmp 56) (.tmp 61) _ rfl Try.underlying50 info_int rfl w.heap.size (fun _ => False) (.slice q8 N c8') (revI ((C.args.map Int.toNat).drop (m + 1) ++ l)) [.int .i64 x] x _ _ _ _ rfl HOX.out rfl HRX.out rfl (by rw [HLEN.out]; unfold maxLen; omega) (by rw [HLEN.out]; omega) (by rw [HZX.out]; omega) ?_
                           intro v7 w7 ho7 hb7 hg7 hv7
                           obtain ⟨q9, c9, rfl⟩ : ∃ q9 c9, v7 = .slice q9 (N + 1) c9 := by
                             obtain ⟨q9, c9, e9⟩ := own_form ho7
                             exact ⟨q9, c9, by rw [e9]; simp [HLEN.out]⟩
                           rw [HX.out] at ho7
                           have hat3 := HAT2.out.put hm HX0.out ho7 hg7 hv7 HDL.out hrl HWL.out hw0
                           have HAT3 := Lib.hid hat3
                           clear ho7 hb7 hg7 hv7 hat3 hca)
              go_roundw
              case measure => simp [intOf]
              case rel => exact ⟨m, by omega, rfl, HAT3.out⟩
end Go.Proofs.Ytoklbeogmcdgaaa.Tms
namespace Go.Proofs.Ytoklbeogmcdgaaa.Tms
open Go Go.RowKit Go.Proofs.Ytoklbeogmcdgaaa.Reg Go.Proofs.Ytoklbeogmcdgaaa.Rws Go.Proofs.Ytoklbeogmcdgaaa.Maps
set_option linter.unusedVariables false
set_option linter.unusedSimpArgs false

theorem RunAt.rdid {w0 w w' : World} {p rb k : Nat} {sf : Bool} {S : Sto} {D : Nat → Prop} {W : List (Nat × Nat)} {wv : Value} (h : RunAt w0 p rb sf S D k W wv w') (hk : Keeps w w' (fun b => b = rb)) : RDid w0 p rb sf D wv w S k W w' :=
  ⟨D, wv, h, hk.size, fun b hb => ⟨⟨hb.1, hb.2.1, hb.2.2.1, Nat.lt_of_lt_of_le hb.2.2.2 hk.size⟩, hk.block b hb.2.2.2 hb.2.1⟩⟩
theorem RDid.trans {w0 w w' w'' : World} {p rb k' : Nat} {sf : Bool} {S' : Sto} {D D' : Nat → Prop} {W' : List (Nat × Nat)} {wv wv' : Value} (h : RStep rb D wv w D' wv' w') (h' : RDid w0 p rb sf D' wv' w' S' k' W' w'') : RDid w0 p rb sf D wv w S' k' W' w'' := by
  obtain ⟨D2, wv2, h1, h2⟩ := h'
  exact ⟨D2, wv2, h1, h.trans h2⟩
theorem Keeps.rstep {rb : Nat} {D : Nat → Prop} {wv : Value} {w w' : World} (hk : Keeps w w' (fun b => b = rb)) : RStep rb D wv w D wv w' :=
  ⟨hk.size, fun b hb => ⟨⟨hb.1, hb.2.1, hb.2.2.1, Nat.lt_of_lt_of_le hb.2.2.2 hk.size⟩, hk.block b hb.2.2.2 hb.2.1⟩⟩
set_option maxRecDepth 100000 in
set_option maxHeartbeats 8000000 in
theorem run_bind {w0 w : World} {p rb k : Nat} {sf : Bool} {S : Sto} {D : Nat → Prop} {W : List (Nat × Nat)} {wv : Value} (h : RunAt w0 p rb sf S D k W wv w) (v t : Nat) (tk : Int) (hv : v < S.cells.length) (ht : t < S.cells.length) (hvl : (S.cells[v]).lk = -1) (htl : (S.cells[t]).lk = -1) (hk : (S.cells[v]).k = 1) (hne : v ≠ t) :
    Calls Try.prog 120 #[.pointer (some ⟨rb, 0, none⟩), .int .i64 v, .int .i64 t, .int .i64 tk] w fun e w' => e = .returned (.tuple #[.bool (hasB (bindP S sf k v t tk).1), .int .i64 (hasE (bindP S sf k v t tk).1)]) ∧ RDid w0 p rb sf D wv w (bindP S sf k v t tk).2.1 (bindP S sf k v t tk).2.2 W w' := by
  have c1 : Ch S 0 v v := ⟨hv, by omega, rfl⟩
  have c2 : Ch S 0 t t := ⟨ht, by omega, rfl⟩
  have hbind : ∀ (u : World) (j : Nat), RunAt w0 p rb sf S D j W wv u → Calls Try.prog 22 #[.pointer (some ⟨p, 0, none⟩), .int .i64 v, .int .i64 t] u fun e w' => e = .returned (.int .i64 0) ∧ RDid w0 p rb sf D wv u (bindS S v t) j W w' := fun u j hr => by
    refine (sto_Bind u hr.law.sto hr.inv.stoOk 0 0 v t v t c1 c2 hk hne).mono ?_
    rintro e w' ⟨rfl, hd⟩
    obtain ⟨D', h1, h2⟩ := hr.law.did hd
    obtain ⟨g1, g2⟩ := hr.did h1 h2 (hr.inv.bind hv ht hvl htl hk hne)
    exact ⟨rfl, D', wv, g1, g2⟩
  have HBIND := Lib.hid hbind
  obtain ⟨y0, y1, y2, y3⟩ := row4r h.row
  have H := Lib.hid h
  clear c1 c2 hbind hvl htl hk hne h
  by_cases hc : sf = true ∧ tk ≠ 1
  · obtain ⟨rfl, htk⟩ := hc
    have b1 : (tk != 1) = true := by simpa using htk
    have hb : bindP S true k v t tk = (match (hasP S v k [t]).1 with
      | none => (none, S, (hasP S v k [t]).2)
      | some true => (some false, S, (hasP S v k [t]).2)
      | some false => (some true, bindS S v t, (hasP S v k [t]).2)) := by unfold bindP; exact if_pos ⟨rfl, htk⟩
    have HB := Lib.hid hb
    clear hb htk
    go_enter Try.func120, Try.ntmps120
    go_wp2_with fail
    refine (run_has H.out v t ht).mono ?_
    rintro e2 w2 ⟨rfl, hr2, hk2⟩
    have HR2 := Lib.hid hr2
    have HK2 := Lib.hid hk2
    have hh := HB.out
    clear hr2 hk2 y0 y1 y2 y3
    generalize hasP S v k [t] = r at *
    obtain ⟨o, k2⟩ := r
    dsimp only at HR2
    cases o with
    | none =>
      have HH := Lib.hid hh
      clear hh
      simp only [hasB, hasE]
      go_wp2
      go_ret2
      rw [HH.out]
      exact ⟨rfl, HR2.out.rdid HK2.out⟩
    | some o =>
      cases o with
      | true =>
        have HH := Lib.hid hh
        clear hh
        simp only [hasB, hasE]
        go_wp2
        go_ret2
        rw [HH.out]
        exact ⟨rfl, HR2.out.rdid HK2.out⟩
      | false =>
        have HH := Lib.hid hh
        clear hh
        obtain ⟨y0, y1, y2, y3⟩ := row4r HR2.out.row
        simp only [hasB, hasE]
        go_wp2_with fail
        refine (HBIND.out w2 k2 HR2.out).mono ?_
        rintro e3 w3 ⟨rfl, hd3⟩
        have HD3 := Lib.hid hd3
        clear hd3 y0 y1 y2 y3
        go_wp2
        go_ret2
        rw [HH.out]
        exact ⟨rfl, RDid.trans HK2.out.rstep HD3.out⟩
  · have hb : bindP S sf k v t tk = (some true, bindS S v t, k) := by unfold bindP; rw [if_neg hc]
    have HB := Lib.hid hb
    have hsf : sf = false ∨ (sf = true ∧ tk = 1) := by
      cases sf with
      | false => exact .inl rfl
      | true => exact .inr ⟨rfl, Classical.byContradiction fun e => hc ⟨rfl, e⟩⟩
    clear hb hc
    rcases hsf with rfl | ⟨rfl, htk⟩
    · go_enter Try.func120, Try.ntmps120
      go_wp2_with fail
      refine (HBIND.out w k H.out).mono ?_
      rintro e3 w3 ⟨rfl, hd3⟩
      have HD3 := Lib.hid hd3
      clear hd3 y0 y1 y2 y3
      go_wp2
      go_ret2
      rw [HB.out]
      exact ⟨rfl, HD3.out⟩
    · have b1 : (tk != 1) = false := by simpa using htk
      clear htk
      go_enter Try.func120, Try.ntmps120
      go_wp2_with fail
      refine (HBIND.out w k H.out).mono ?_
      rintro e3 w3 ⟨rfl, hd3⟩
      have HD3 := Lib.hid hd3
      clear hd3 y0 y1 y2 y3
      go_wp2
      go_ret2
      rw [HB.out]
      exact ⟨rfl, HD3.out⟩
/-- the Args are put, from the last one on: so many are left -/
structure OnAt (w0 : World) (p rb : Nat) (sf : Bool) (S : Sto) (k : Nat) (W : List (Nat × Nat)) (D0 : Nat → Prop) (wv0 : Value) (w : World) (xv yv : Value) (A B : List Int) (m : Nat) (D : Nat → Prop) (wv : Value) (wr : World) : Prop where
  run : RunAt w0 p rb sf S D k (((A.map Int.toNat).zip (B.map Int.toNat)).drop m ++ W) wv wr
  stp : RStep rb D0 wv0 w D wv wr
  xs : IntSl wr (ROut rb D wv wr) xv A
  ys : IntSl wr (ROut rb D wv wr) yv B
def OnRel (w0 : World) (p rb : Nat) (sf : Bool) (S : Sto) (k : Nat) (W : List (Nat × Nat)) (D0 : Nat → Prop) (wv0 : Value) (w : World) (xv yv : Value) (A B : List Int) (v14 : Value) (wr : World) : Prop :=
  ∃ (m : Nat) (D : Nat → Prop) (wv : Value), m ≤ A.length ∧ v14 = .int .i64 ((m : Int) - 1) ∧ OnAt w0 p rb sf S k W D0 wv0 w xv yv A B m D wv wr
theorem drewN_below (w : World) (k : Nat) : Below w.heap.size w (w.drewN k) := ⟨rfl, by simp, rfl, by simp, fun b hb => by simp⟩
theorem bytes_ext {a b : ByteArray} (h : a.toList = b.toList) : a = b := by
  rw [ByteArray.toList_eq, ByteArray.toList_eq] at h
  cases a; cases b
  congr 1
  exact Array.toList_inj.1 h
theorem IntSl.pick {w : World} {P : Nat → Prop} {q : Option Addr} {n c : Nat} {L : List Int} (h : IntSl w P (.slice q n c) L) (i : Nat) (hi : i < L.length) : ∃ b off, q = some ⟨b, off, none⟩ ∧ w.cell? ⟨b, off + i, none⟩ = some (.int .i64 L[i]) := by
  obtain ⟨a', c', e, -, -, h3⟩ := h
  obtain ⟨b, off, e1, -, -, hc⟩ := h3 i hi
  simp only [Value.slice.injEq] at e
  exact ⟨b, off, by rw [e.1]; exact e1, hc⟩
theorem IntSl.room {w : World} {P : Nat → Prop} {q : Option Addr} {n c : Nat} {L : List Int} (h : IntSl w P (.slice q n c) L) : n ≤ c ∧ c ≤ maxLen := by
  obtain ⟨a', c', e, h1, h2, -⟩ := h
  simp only [Value.slice.injEq] at e
  obtain ⟨-, rfl, rfl⟩ := e
  exact ⟨h1, h2⟩
theorem shell_k (x : Nat) (c : SCell) : (shellC x c).k = c.k := by
  unfold shellC
  split
  · rename_i h; exact h.symm
  · rfl
set_option maxRecDepth 100000 in
set_option maxHeartbeats 16000000 in
theorem run_one {w0 w : World} {p rb k : Nat} {sf : Bool} {S : Sto} {D : Nat → Prop} {W : List (Nat × Nat)} {wv : Value} (h : RunAt w0 p rb sf S D k W wv w) (hW : W.length ≤ 100000000) (a b : Nat) (ha : a < S.cells.length) (hb : b < S.cells.length) :
    Calls Try.prog 115 #[.pointer (some ⟨rb, 0, none⟩), .agg #[.int .i64 a, .int .i64 b], .func (.func 114) #[.pointer (some ⟨rb, 0, none⟩)] #[]] w fun e w' => e = .returned (.tuple #[.bool (hasB (oneP S sf k a b).1.1), .int .i64 (hasE (oneP S sf k a b).1.1)]) ∧ RDid w0 p rb sf D wv w (oneP S sf k a b).1.2.1 (oneP S sf k a b).1.2.2 ((oneP S sf k a b).2 ++ W) w' := by
  obtain ⟨fa, ca, ga⟩ := h.inv.stoIn.fol ha
  obtain ⟨fb, cb, gb⟩ := h.inv.stoIn.fol hb
  obtain ⟨la, ea, ra⟩ := h.inv.root ha
  obtain ⟨lb, eb, rb'⟩ := h.inv.root hb
  have hbN := below_new w (.cells #[.int .i64 a, .int .i64 b] 177 (0, 0))
  have hrN := heap_alloc_new w (.cells #[.int .i64 a, .int .i64 b] 177 (0, 0))
  obtain ⟨h1, s1, -⟩ := h.below hbN
  have hsm := h.inv.small
  have H1 := Lib.hid h1
  have S1 := Lib.hid s1
  have HRN := Lib.hid hrN
  have HCA := Lib.hid ca
  have HCB := Lib.hid cb
  have hone : oneP S sf k a b = if fol S a = fol S b then ((some true, S, k), []) else
    if (cellF S a).k = 1 then (bindP S sf k (fol S a) (fol S b) (cellF S b).k, []) else
    if (cellF S b).k = 1 then (bindP S sf k (fol S b) (fol S a) (cellF S a).k, []) else
    if (cellF S a).k ≠ (cellF S b).k ∨ (cellF S a).n ≠ (cellF S b).n ∨ (cellF S a).s ≠ (cellF S b).s ∨ (cellF S a).args.length ≠ (cellF S b).args.length then ((some false, S, k), []) else
    ((some true, S, k), ((cellF S a).args.map Int.toNat).zip ((cellF S b).args.map Int.toNat)) := rfl
  have HONE := Lib.hid hone
  clear hbN hrN h1 s1 ca cb hone h
  go_enter Try.func115, Try.ntmps115
  go_wp2
  generalize w.alloc (.cells #[.int .i64 a, .int .i64 b] 177 (0, 0)) = w1 at *
  obtain ⟨y0, y1, y2, y3⟩ := row4r H1.out.row
  have z0 : w1.cell? ⟨w.heap.size, 0, none⟩ = some (.int .i64 (a : Int)) := by simpa using cell_of_row _ w.heap.size 0 _ _ _ HRN.out
  have z1 : w1.cell? ⟨w.heap.size, 1, none⟩ = some (.int .i64 (b : Int)) := by simpa using cell_of_row _ w.heap.size 1 _ _ _ HRN.out
  have hq : ∀ (x f : Nat), Ch S f x (fol S x) → ∀ u : World, u.heap = w1.heap → Calls Try.prog 29 #[.pointer (some ⟨p, 0, none⟩), .int .i64 x] u (fun e u' => e = .returned (.int .i64 (fol S x)) ∧ u' = u) := fun x f hc u hu =>
    (sto_Follow u (H1.out.law.sto.keep (by rw [hu]; exact Nat.le_refl _) fun b _ _ => by rw [hu]) f x _ hc).mono fun _ _ ⟨h, e⟩ => ⟨h, e.symm⟩
  have HQA := Lib.hid (hq a fa HCA.out)
  have HQB := Lib.hid (hq b fb HCB.out)
  clear hq
  go_quiet ((go_at_call 29; first | (with_reducible exact Calls.quiet_of_same (HQA.out _ rfl)) | (with_reducible exact Calls.quiet_of_same (HQB.out _ rfl))))
  clear y0 y1 y2 y3 z0 z1 HRN HQA HQB
  have hdr : Below w1.heap.size w1 (w1.drewN nq) := drewN_below w1 nq
  obtain ⟨h2, s2, -⟩ := H1.out.below hdr
  have H2 := Lib.hid h2
  have S2 := Lib.hid (S1.out.trans s2)
  clear hdr h2 s2 H1 S1
  generalize w1.drewN nq = w2 at *
  have hA : ∀ (hx : fol S a < S.cells.length), Ch S 0 (fol S a) (fol S a) := fun hx => ⟨hx, HCA.out.end_.2, rfl⟩
  have hB : ∀ (hx : fol S b < S.cells.length), Ch S 0 (fol S b) (fol S b) := fun hx => ⟨hx, HCB.out.end_.2, rfl⟩
  obtain ⟨CA, hCA⟩ : ∃ CA, CA = cellF S a := ⟨_, rfl⟩
  obtain ⟨CB, hCB⟩ : ∃ CB, CB = cellF S b := ⟨_, rfl⟩
  obtain ⟨A1, hA1⟩ : ∃ A1, A1 = fol S a := ⟨_, rfl⟩
  obtain ⟨B1, hB1⟩ : ∃ B1, B1 = fol S b := ⟨_, rfl⟩
  rw [← hA1, ← hCA] at ga
  rw [← hB1, ← hCB] at gb
  rw [← hCA, ← hCB, ← hA1, ← hB1] at HONE
  have la' : A1 < S.cells.length := by rw [hA1]; exact la
  have lb' : B1 < S.cells.length := by rw [hB1]; exact lb
  have ea' : S.cells[A1]'la' = CA := by
    obtain ⟨h, e⟩ := List.getElem?_eq_some_iff.1 ga
    exact e
  have eb' : S.cells[B1]'lb' = CB := by
    obtain ⟨h, e⟩ := List.getElem?_eq_some_iff.1 gb
    exact e
  have hcA : Ch S 0 A1 A1 := by rw [hA1]; exact hA la
  have hcB : Ch S 0 B1 B1 := by rw [hB1]; exact hB lb
  have okA := H2.out.inv.cell _ _ ga
  have okB := H2.out.inv.cell _ _ gb
  have raA : (S.cells[A1]'la').lk = -1 := by
    rcases okA.lk with e | e
    · rw [ea']; exact e
    · have := hcA.2.1; rw [ea'] at this; omega
  have raB : (S.cells[B1]'lb').lk = -1 := by
    rcases okB.lk with e | e
    · rw [eb']; exact e
    · have := hcB.2.1; rw [eb'] at this; omega
  have HGA := Lib.hid ga
  have HGB := Lib.hid gb
  have HEA := Lib.hid ea'
  have HEB := Lib.hid eb'
  have HCHA := Lib.hid hcA
  have HCHB := Lib.hid hcB
  have HOKA := Lib.hid okA
  have HOKB := Lib.hid okB
  have HRA := Lib.hid raA
  have HRB := Lib.hid raB
  have hAl := okA.len
  have hBl := okB.len
  rw [← hA1, ← hB1]
  clear ga gb la lb ea eb ra rb' hA hB hCA hCB hA1 hB1 ea' eb' hcA hcB okA okB raA raB HCA HCB
  by_cases heq : A1 = B1
  · have hr := HONE.out
    rw [if_pos heq] at hr
    have HR := Lib.hid hr
    have b1 : ((A1 : Int) == (B1 : Int)) = true := by simp; omega
    clear heq hr
    go_wp2
    go_ret2
    rw [HR.out]
    exact ⟨rfl, D, wv, H2.out, S2.out⟩
  have b1 : ((A1 : Int) == (B1 : Int)) = false := by simp; omega
  have hone := HONE.out
  rw [if_neg heq] at hone
  have HONE2 := Lib.hid hone
  have HNE := Lib.hid heq
  clear hone heq HONE
  obtain ⟨y0, y1, y2, y3⟩ := row4r H2.out.row
  go_wp2_with fail
  refine (sto_Look w2 H2.out.law.sto 0 A1 A1 CA HCHA.out HGA.out (by omega) (by omega)).mono ?_
  rintro e3 w3 ⟨av, rfl, hav, hb3⟩
  obtain ⟨qa, pa, rfl⟩ := hav.form
  obtain ⟨h3, s3, n3⟩ := H2.out.below hb3
  have hx3 : IntSl w3 (ROut rb D wv w3) (.slice qa CA.args.length pa) CA.args := hav.low.move (fun b hb _ => n3 b hb.1 hb.2) fun _ _ _ => rfl
  have hb4 := below_new w3 (.cells #[.int .i64 (shellC A1 CA).k, .int .i64 (shellC A1 CA).n, .string (shellC A1 CA).s, .slice none 0 0] 33 (0, 0))
  have hr4 := heap_alloc_new w3 (.cells #[.int .i64 (shellC A1 CA).k, .int .i64 (shellC A1 CA).n, .string (shellC A1 CA).s, .slice none 0 0] 33 (0, 0))
  obtain ⟨h4, s4, n4⟩ := h3.below hb4
  have hx4 := hx3.rstep s4
  have hn4 := n4 w3.heap.size (Nat.le_refl _) (by simp)
  obtain ⟨y0, y1, y2, y3⟩ := row4r h4.row
  have H4 := Lib.hid h4
  have S4 := Lib.hid ((S2.out.trans s3).trans s4)
  have HX4 := Lib.hid hx4
  have HR4 := Lib.hid hr4
  have HN4 := Lib.hid hn4
  clear hb3 h3 s3 n3 hx3 hb4 hr4 h4 s4 n4 hx4 hn4 hav H2 S2
  have ska := shell_k A1 CA
  have skb := shell_k B1 CB
  have sna : CA.k ≠ 1 → (shellC A1 CA).n = CA.n ∧ (shellC A1 CA).s = CA.s := fun h => by unfold shellC; rw [if_neg h]; exact ⟨rfl, rfl⟩
  have snb : CB.k ≠ 1 → (shellC B1 CB).n = CB.n ∧ (shellC B1 CB).s = CB.s := fun h => by unfold shellC; rw [if_neg h]; exact ⟨rfl, rfl⟩
  generalize hsA : shellC A1 CA = sA at *
  have SKA := Lib.hid ska
  have SKB := Lib.hid skb
  have SNA := Lib.hid sna
  have SNB := Lib.hid snb
  clear hsA ska skb sna snb
  dsimp only
  go_upto_region 5 with fail
  generalize w3.alloc (.cells #[.int .i64 sA.k, .int .i64 sA.n, .string sA.s, .slice none 0 0] 33 (0, 0)) = W4 at *
  generalize w3.heap.size = xr at *
  go_wp2_with fail
  refine (sto_Look W4 H4.out.law.sto 0 B1 B1 CB HCHB.out HGB.out (by omega) (by omega)).mono ?_
  rintro e5 w5 ⟨bv, rfl, hbv, hb5⟩
  obtain ⟨qb, pb, rfl⟩ := hbv.form
  obtain ⟨h5, s5, n5⟩ := H4.out.below hb5
  have hx5 := HX4.out.rstep s5
  have hy5 : IntSl w5 (ROut rb D wv w5) (.slice qb CB.args.length pb) CB.args := hbv.low.move (fun b hb _ => n5 b hb.1 hb.2) fun _ _ _ => rfl
  generalize hsB : shellC B1 CB = sB at *
  have hb6 := below_new w5 (.cells #[.int .i64 sB.k, .int .i64 sB.n, .string sB.s, .slice none 0 0] 33 (0, 0))
  have hr6 := heap_alloc_new w5 (.cells #[.int .i64 sB.k, .int .i64 sB.n, .string sB.s, .slice none 0 0] 33 (0, 0))
  obtain ⟨h6, s6, n6⟩ := h5.below hb6
  have hx6 := hx5.rstep s6
  have hy6 := hy5.rstep s6
  have hn6 := n6 w5.heap.size (Nat.le_refl _) (by simp)
  have hrx := ((s5.trans s6).blk xr HN4.out).2.trans HR4.out
  obtain ⟨u0, u1, u2, u3⟩ := row4 hrx
  obtain ⟨v0, v1, v2, v3⟩ := row4 hr6
  have H6 := Lib.hid h6
  have S6 := Lib.hid ((S4.out.trans s5).trans s6)
  have HX6 := Lib.hid hx6
  have HY6 := Lib.hid hy6
  clear hb5 h5 s5 n5 hx5 hy5 hsB hb6 hr6 h6 s6 n6 hx6 hy6 hn6 hrx hbv H4 S4 HX4 HR4 HN4 y0 y1 y2 y3
  dsimp only
  go_upto_region 6 with fail
  generalize w5.alloc (.cells #[.int .i64 sB.k, .int .i64 sB.n, .string sB.s, .slice none 0 0] 33 (0, 0)) = W6 at *
  generalize w5.heap.size = yr at *
  rw [SKA.out] at u0
  rw [SKB.out] at v0
  by_cases ka : CA.k = 1
  · have hr := HONE2.out
    rw [if_pos ka] at hr
    have HR := Lib.hid hr
    have k1 : (CA.k == 1) = true := by simpa using ka
    have hk : (S.cells[A1]'la').k = 1 := by rw [HEA.out]; exact ka
    have HK := Lib.hid hk
    clear hr ka hk u1 u2 u3 v1 v2 v3
    go_wp2_with fail
    refine (run_bind H6.out A1 B1 CB.k la' lb' HRA.out HRB.out HK.out HNE.out).mono ?_
    rintro e7 w7 ⟨rfl, hd7⟩
    have HD7 := Lib.hid hd7
    clear hd7 u0 v0
    go_wp2
    go_ret2
    rw [HR.out]
    exact ⟨rfl, RDid.trans S6.out HD7.out⟩
  have ka1 : (CA.k == 1) = false := by simpa using ka
  by_cases kb : CB.k = 1
  · have hr := HONE2.out
    rw [if_neg ka, if_pos kb] at hr
    have HR := Lib.hid hr
    have k1 : (CB.k == 1) = true := by simpa using kb
    have hk : (S.cells[B1]'lb').k = 1 := by rw [HEB.out]; exact kb
    have HK := Lib.hid hk
    have HKA := Lib.hid ka
    clear hr ka kb hk u1 u2 u3 v1 v2 v3
    go_wp2_with fail
    refine (run_bind H6.out B1 A1 CA.k lb' la' HRB.out HRA.out HK.out (Ne.symm HNE.out)).mono ?_
    rintro e7 w7 ⟨rfl, hd7⟩
    have HD7 := Lib.hid hd7
    clear hd7 u0 v0
    go_wp2
    go_ret2
    rw [HR.out]
    exact ⟨rfl, RDid.trans S6.out HD7.out⟩
  have kb1 : (CB.k == 1) = false := by simpa using kb
  rw [(SNA.out ka).1] at u1
  rw [(SNA.out ka).2] at u2
  rw [(SNB.out kb).1] at v1
  rw [(SNB.out kb).2] at v2
  have hone := HONE2.out
  rw [if_neg ka, if_neg kb] at hone
  have HKA := Lib.hid ka
  have HKB := Lib.hid kb
  clear ka kb u3 v3
  by_cases e1 : CA.k = CB.k
  case neg =>
    have b2 : (CA.k != CB.k) = true := by simpa using e1
    rw [if_pos (.inl e1)] at hone
    have HR := Lib.hid hone
    clear hone HX6 HY6
    clear e1
    go_wp2
    go_ret2
    rw [HR.out]
    exact ⟨rfl, D, wv, H6.out, S6.out⟩
  have b2 : (CA.k != CB.k) = false := by simpa using e1
  by_cases e2 : CA.n = CB.n
  case neg =>
    have b3 : (CA.n != CB.n) = true := by simpa using e2
    rw [if_pos (.inr (.inl e2))] at hone
    have HR := Lib.hid hone
    clear hone HX6 HY6
    clear e1 e2
    go_wp2
    go_ret2
    rw [HR.out]
    exact ⟨rfl, D, wv, H6.out, S6.out⟩
  have b3 : (CA.n != CB.n) = false := by simpa using e2
  by_cases e3 : CA.s = CB.s
  case neg =>
    have b4 : (CA.s.toList == CB.s.toList) = false := by
      rw [beq_eq_false_iff_ne]
      exact fun e => e3 (bytes_ext e)
    rw [if_pos (.inr (.inr (.inl e3)))] at hone
    have HR := Lib.hid hone
    clear hone HX6 HY6
    clear e1 e2 e3
    go_wp2
    go_ret2
    rw [HR.out]
    exact ⟨rfl, D, wv, H6.out, S6.out⟩
  have b4 : (CA.s.toList == CB.s.toList) = true := by rw [e3]; exact beq_self_eq_true _
  by_cases e4 : CA.args.length = CB.args.length
  case neg =>
    have b5 : ((CA.args.length : Int) != (CB.args.length : Int)) = true := by simp; omega
    rw [if_pos (.inr (.inr (.inr e4)))] at hone
    have HR := Lib.hid hone
    clear hone HX6 HY6
    clear e1 e2 e3 e4
    go_wp2
    go_ret2
    rw [HR.out]
    exact ⟨rfl, D, wv, H6.out, S6.out⟩
  have b5 : ((CA.args.length : Int) != (CB.args.length : Int)) = false := by simp; omega
  rw [if_neg (by rintro (e | e | e | e); exact e e1; exact e e2; exact e e3; exact e e4)] at hone
  have HR := Lib.hid hone
  have HE4 := Lib.hid e4
  have hin : OnRel w0 p rb sf S k W D wv w (.slice qa CA.args.length pa) (.slice qb CB.args.length pb) CA.args CB.args (.int .i64 ((CA.args.length : Int) - 1)) W6 := by
    refine ⟨CA.args.length, D, wv, Nat.le_refl _, rfl, ?_, S6.out, HX6.out, HY6.out⟩
    rw [List.drop_of_length_le (by rw [List.length_zip, List.length_map, List.length_map]; omega), List.nil_append]
    exact H6.out
  have HIN := Lib.hid hin
  clear hone hin e1 e2 e3 e4 HX6 HY6
  go_wp2
  go_loopw [14] (fun v14 wr => OnRel w0 p rb sf S k W D wv w (.slice qa CA.args.length pa) (.slice qb CB.args.length pb) CA.args CB.args v14 wr) (fun v14 _ => (intOf v14 + 1).toNat)
  case atStart => exact HIN.out
  case round =>
    clear HIN
    obtain ⟨m, D2, wv2, hm, rfl, hat⟩ := hrel
    have HAT := Lib.hid hat
    clear hat u0 u1 u2 v0 v1 v2 b2 b3 b4 b5 ka1 kb1 b1
    cases m with
    | zero =>
      have b6 : decide ((0 : Int) ≤ ((0 : Nat) : Int) - 1) = false := by simp
      go_wp2
      go_ret2
      rw [HR.out]
      exact ⟨rfl, D2, wv2, HAT.out.run, HAT.out.stp⟩
    | succ m =>
      obtain ⟨ba, oa, rfl, xa⟩ := HAT.out.xs.pick m (by omega)
      obtain ⟨bb, ob, rfl, xb⟩ := HAT.out.ys.pick m (by have := HE4.out; omega)
      have hca := HAT.out.xs.room
      have hcb := HAT.out.ys.room
      have hma : m < CA.args.length := by omega
      have hmb : m < CB.args.length := by have := HE4.out; omega
      obtain ⟨x, hx⟩ : ∃ x : Nat, CA.args[m] = (x : Int) := ⟨_, (Int.toNat_of_nonneg (HOKA.out.args _ (List.getElem_mem hma)).1).symm⟩
      obtain ⟨y, hy⟩ : ∃ y : Nat, CB.args[m] = (y : Int) := ⟨_, (Int.toNat_of_nonneg (HOKB.out.args _ (List.getElem_mem hmb)).1).symm⟩
      rw [hx] at xa
      rw [hy] at xb
      have hdrop : ((CA.args.map Int.toNat).zip (CB.args.map Int.toNat)).drop m = (x, y) :: ((CA.args.map Int.toNat).zip (CB.args.map Int.toNat)).drop (m + 1) := by
        rw [List.drop_eq_getElem_cons (by rw [List.length_zip, List.length_map, List.length_map]; omega)]
        congr 1
        rw [List.getElem_zip, List.getElem_map, List.getElem_map, hx, hy]
        rfl
      have HDR := Lib.hid hdrop
      have e1 : ((m + 1 : Nat) : Int) - 1 = (m : Int) := by omega
      rw [e1]
      have b6 : decide ((0 : Int) ≤ (m : Int)) = true := by simp
      have hm1 : (m : Int) < (CA.args.length : Int) := by omega
      have hm2 : (m : Int) < (CB.args.length : Int) := by omega
      have hca2 := hca.1
      have hcb2 := hcb.1
      clear hx hy hdrop hca hcb e1
      go_wp2
      refine wp_region_rest (by kernel_rfl) ?_
      have hdr : Below wr.heap.size wr wr.drew := (Below.refl _ _).drew
      obtain ⟨h7, s7, -⟩ := HAT.out.run.below hdr
      have xa' : wr.drew.cell? ⟨ba, oa + m, none⟩ = _ := xa
      have xb' : wr.drew.cell? ⟨bb, ob + m, none⟩ = _ := xb
      have H7 := Lib.hid h7
      have S7 := Lib.hid (HAT.out.stp.trans s7)
      have HX7 := Lib.hid (HAT.out.xs.rstep s7)
      have HY7 := Lib.hid (HAT.out.ys.rstep s7)
      clear hdr h7 s7 xa xb HAT
      generalize wr.drew = W0 at *
      refine rest_chainP (fun u => u = W0) 0 9 (.soft 0 (.soft 1 (.soft 2 (.soft 3 (.soft 4 (.soft 5 (.soft 6 (.soft 7 (.soft 8 .nil))))))))) (.soft _ (.soft _ (.soft _ (.soft _ (.soft _ (.soft _ (.soft _ (.soft _ (.soft _ .nil))))))))) ⟨rfl, ⟨rfl, ⟨rfl, ⟨rfl, ⟨rfl, ⟨rfl, ⟨rfl, ⟨rfl, ⟨rfl, trivial⟩⟩⟩⟩⟩⟩⟩⟩⟩ (by kernel_rfl) (by kernel_rfl) (by kernel_rfl) (by kernel_rfl) (.inr (by kernel_rfl)) rfl ?_
      refine chainP_soft (a1 := ?ma10) (by kernel_rfl) (by kernel_rfl) ?mh10 ?mr10
      case mh10 =>
        intro u hu E hE
        subst hu
        go_wp2
        rfl
      refine chainP_soft (a1 := ?ma11) (by kernel_rfl) (by kernel_rfl) ?mh11 ?mr11
      case mh11 =>
        intro u hu E hE
        subst hu
        go_wp2
        rfl
      refine chainP_soft (a1 := ?ma12) (by kernel_rfl) (by kernel_rfl) ?mh12 ?mr12
      case mh12 =>
        intro u hu E hE
        subst hu
        go_wp2
        rfl
      refine chainP_soft (a1 := ?ma13) (by kernel_rfl) (by kernel_rfl) ?mh13 ?mr13
      case mh13 =>
        intro u hu E hE
        subst hu
        go_wp2
        rfl
      refine chainP_soft (a1 := ?ma14) (by kernel_rfl) (by kernel_rfl) ?mh14 ?mr14
      case mh14 =>
        intro u hu E hE
        subst hu
        go_wp2
        rfl
      refine chainP_soft (a1 := ?ma15) (by kernel_rfl) (by kernel_rfl) ?mh15 ?mr15
      case mh15 =>
        intro u hu E hE
        subst hu
        go_wp2
        rfl
      refine chainP_soft (a1 := ?ma16) (by kernel_rfl) (by kernel_rfl) ?mh16 ?mr16
      case mh16 =>
        intro u hu E hE
        subst hu
        go_wp2
        rfl
      refine chainP_soft (a1 := ?ma17) (by kernel_rfl) (by kernel_rfl) ?mh17 ?mr17
      case mh17 =>
        intro u hu E hE
        subst hu
        go_wp2
        rfl
      refine chainP_soft (a1 := ?ma18) (by kernel_rfl) (by kernel_rfl) ?mh18 ?mr18
      case mh18 =>
        intro u hu E hE
        subst hu
        go_wp2
        rfl
      refine chainP_nil ?_
      refine rest_lineL 9 10 [_] rfl (by kernel_rfl) (by decide) (by decide) (by kernel_rfl) ?_
      go_wp2_with fail
      refine (run_put H7.out (by rw [List.length_append, List.length_drop, List.length_zip, List.length_map, List.length_map]; omega) x y).mono ?_
      rintro e8 w8 ⟨rfl, wv8, h8, s8⟩
      have hrel : OnRel w0 p rb sf S k W D wv w (.slice (some ⟨ba, oa, none⟩) CA.args.length pa) (.slice (some ⟨bb, ob, none⟩) CB.args.length pb) CA.args CB.args (.int .i64 ((m : Int) - 1)) w8 :=
        ⟨m, D2, wv8, by omega, rfl, by rw [HDR.out]; exact h8, S7.out.trans s8, HX7.out.rstep s8, HY7.out.rstep s8⟩
      have HREL := Lib.hid hrel
      clear hrel h8 s8 xa' xb'
      go_wp2
      refine then_rest (rest_end (by decide) ?_)
      go_wp2
      go_roundw
      case measure => simp [intOf]
      case rel => exact HREL.out
end Go.Proofs.Ytoklbeogmcdgaaa.Tms
namespace Go.Proofs.Ytoklbeogmcdgaaa.Tms
open Go Go.RowKit Go.Proofs.Ytoklbeogmcdgaaa.Reg Go.Proofs.Ytoklbeogmcdgaaa.Rws Go.Proofs.Ytoklbeogmcdgaaa.Maps
set_option linter.unusedVariables false
set_option linter.unusedSimpArgs false

/-- what is left to unify -/
structure AllAt (w0 : World) (p rb : Nat) (sf : Bool) (S : Sto) (k0 : Nat) (l0 : List (Nat × Nat)) (D : Nat → Prop) (wv : Value) (w : World) (f : Nat) (S' : Sto) (D' : Nat → Prop) (k : Nat) (W : List (Nat × Nat)) (wv' : Value) (wr : World) : Prop where
  run : RunAt w0 p rb sf S' D' k W wv' wr
  stp : RStep rb D wv w D' wv' wr
  fuel : k ≤ f
  inn : InL S' W
  eq : uniP sf k0 k0 S l0 = uniP sf f k S' W
  len : W.length ≤ 1 + 255 * (20000 - k)
def AllRel (w0 : World) (p rb : Nat) (sf : Bool) (S : Sto) (k0 : Nat) (l0 : List (Nat × Nat)) (D : Nat → Prop) (wv : Value) (w : World) (f : Nat) (wr : World) : Prop := ∃ S' D' k W wv', AllAt w0 p rb sf S k0 l0 D wv w f S' D' k W wv' wr
/-- what all leaves -/
def AllDid (w0 : World) (p rb : Nat) (sf : Bool) (D : Nat → Prop) (wv : Value) (w : World) (S' : Sto) (w' : World) : Prop := ∃ D' k W wv', RunAt w0 p rb sf S' D' k W wv' w' ∧ RStep rb D wv w D' wv' w'
theorem oneP_len {S : Sto} (hS : Inv S) {sf : Bool} {k a b : Nat} (ha : a < S.cells.length) : (oneP S sf k a b).2.length ≤ 255 := by
  obtain ⟨hl, e, -⟩ := hS.root ha
  unfold oneP
  split
  · simp
  split
  · simp
  split
  · simp
  split
  · simp
  · have := (hS.cell _ _ (List.getElem?_eq_getElem hl)).len
    rw [e] at this
    rw [List.length_zip]
    unfold argN
    rw [List.length_map]
    omega
theorem RunAt.pop {w0 w : World} {p rb k g n cap a b : Nat} {sf : Bool} {S : Sto} {D : Nat → Prop} {W : List (Nat × Nat)} (h : RunAt w0 p rb sf S D k ((a, b) :: W) (.slice (some ⟨g, 0, none⟩) n cap) w) :
    n = W.length + 1 ∧ n ≤ cap ∧ cap ≤ maxLen ∧ w.cell? ⟨g, W.length * 2, none⟩ = some (.int .i64 a) ∧ w.cell? ⟨g, W.length * 2 + 1, none⟩ = some (.int .i64 b) ∧ RunAt w0 p rb sf S D k W (.slice (some ⟨g, 0, none⟩) W.length cap) (w.setCell ⟨rb, 3, none⟩ (.slice (some ⟨g, 0, none⟩) W.length cap)) ∧
      RStep rb D (.slice (some ⟨g, 0, none⟩) n cap) w D (.slice (some ⟨g, 0, none⟩) W.length cap) (w.setCell ⟨rb, 3, none⟩ (.slice (some ⟨g, 0, none⟩) W.length cap)) := by
  have ho := h.wait
  rw [upL_cons] at ho
  have hn : n = W.length + 1 := by
    obtain ⟨q, c', e⟩ := own_form ho
    simp only [Value.slice.injEq] at e
    have := e.2.1
    simpa [upL_len] using this
  subst hn
  obtain ⟨h1, h2, h3, cs, rfl, hc⟩ := ho.pop (upL_len W)
  have hset := h.set (o := 3) (k' := k) (v := .slice (some ⟨g, 0, none⟩) W.length cap) (W' := W) (wv' := .slice (some ⟨g, 0, none⟩) W.length cap) (fun h => by rw [h]; rfl) h1 h.kle fun b e => e
  exact ⟨rfl, h2, h3, hc 0 (by decide), hc 1 (by decide), hset.1, hset.2.2.size, hset.2.1⟩
set_option maxRecDepth 100000 in
set_option maxHeartbeats 16000000 in
theorem run_all {w0 w : World} {p rb k0 : Nat} {sf : Bool} {S : Sto} {D : Nat → Prop} {wv : Value} (h : RunAt w0 p rb sf S D k0 [] wv w) (a b : Nat) (ha : a < S.cells.length) (hb : b < S.cells.length) :
    Calls Try.prog 106 #[.pointer (some ⟨rb, 0, none⟩), .int .i64 a, .int .i64 b] w fun e w' => e = .returned (.tuple #[.bool (hasB (uniP sf k0 k0 S [(a, b)]).1), .int .i64 (hasE (uniP sf k0 k0 S [(a, b)]).1)]) ∧ AllDid w0 p rb sf D wv w (uniP sf k0 k0 S [(a, b)]).2.1 w' := by
  have H := Lib.hid h
  clear h
  go_enter Try.func106, Try.ntmps106
  go_wp2_with fail
  refine (run_put H.out (by simp) a b).mono ?_
  rintro e1 w1 ⟨rfl, wv1, h1, s1⟩
  have hst : AllRel w0 p rb sf S k0 [(a, b)] D wv w k0 w1 := ⟨S, D, k0, [(a, b)], wv1, h1, s1, Nat.le_refl _, fun q hq => by simp only [List.mem_singleton] at hq; rw [hq]; exact ⟨ha, hb⟩, rfl, by simp⟩
  have HST := Lib.hid hst
  clear hst h1 s1 H
  go_wp2
  go_loopg [9] k0 (fun f _ wr => AllRel w0 p rb sf S k0 [(a, b)] D wv w f wr)
  case atStart => exact HST.out
  case round =>
    clear HST
    obtain ⟨S', D', k, W, wv', hat⟩ := hrel
    have hkl := hat.run.kle
    have hlen := hat.len
    have hfu := hat.fuel
    obtain ⟨y0, y1, y2, y3⟩ := row4r hat.run.row
    obtain ⟨q, c8, e8⟩ := own_form hat.run.wait
    rw [upL_len] at e8
    subst e8
    cases W with
    | nil =>
      have b1 : decide ((0 : Int) < ((0 : Nat) : Int)) = false := by simp
      have hr : uniP sf k0 k0 S [(a, b)] = (some true, S', k) := by rw [hat.eq]; cases gk <;> rfl
      have HR := Lib.hid hr
      have HAT := Lib.hid hat
      clear hr hat
      go_wp2
      go_ret2
      rw [HR.out]
      exact ⟨rfl, D', k, [], _, HAT.out.run, HAT.out.stp⟩
    | cons x W =>
      obtain ⟨x, y⟩ := x
      obtain ⟨g, rfl⟩ : ∃ g, q = some ⟨g, 0, none⟩ := by
        rcases hat.run.wait.form with ⟨-, e⟩ | ⟨g, c', e⟩
        · have := congrArg List.length e; simp [upL] at this
        · simp only [Value.slice.injEq] at e; exact ⟨g, e.1⟩
      simp only [List.length_cons] at hlen hat y3
      have HAT := Lib.hid hat
      clear hat
      obtain ⟨n, hn⟩ : ∃ n : Nat, n = W.length := ⟨_, rfl⟩
      have hp := HAT.out.run.pop
      rw [← hn] at y3 hlen hp HAT
      obtain ⟨-, hc1, hc2, x0, x1, hr1, hs1⟩ := hp
      unfold maxLen at hc2
      have hn0 : (0 : Int) ≤ (n : Int) := by omega
      have hn1 : n ≤ 10000000 := by omega
      have b1 : decide ((0 : Int) < (n : Int) + 1) = true := by simp
      have HN := Lib.hid hn
      clear hn hlen hr1 hs1
      go_wp2
      refine wp_region_rest (by kernel_rfl) ?_
      have hdr : Below wr.heap.size wr wr.drew := (Below.refl _ _).drew
      obtain ⟨h2, s2, -⟩ := HAT.out.run.below hdr
      have H2 := Lib.hid h2
      have S2 := Lib.hid (HAT.out.stp.trans s2)
      have x0' : wr.drew.cell? ⟨g, n * 2, none⟩ = _ := x0
      have x1' : wr.drew.cell? ⟨g, n * 2 + 1, none⟩ = _ := x1
      have hgl := (h2.wait.low g rfl).2
      have hrl := h2.lt
      clear hdr h2 s2 x0 x1 y0 y1 y2 y3
      generalize wr.drew = W0 at *
      refine rest_chainP (fun u => Below W0.heap.size W0 u) 0 13 (.soft 0 (.soft 1 (.soft 2 (.soft 3 (.soft 4 (.soft 5 (.soft 6 (.soft 7 (.soft 8 (.soft 9 (.soft 10 (.soft 11 (.one 12 .nil))))))))))))) (.soft _ (.soft _ (.soft _ (.soft _ (.soft _ (.soft _ (.soft _ (.soft _ (.soft _ (.soft _ (.soft _ (.soft _ (.one _ .nil))))))))))))) ⟨rfl, ⟨rfl, ⟨rfl, ⟨rfl, ⟨rfl, ⟨rfl, ⟨rfl, ⟨rfl, ⟨rfl, ⟨rfl, ⟨rfl, ⟨rfl, ⟨rfl, trivial⟩⟩⟩⟩⟩⟩⟩⟩⟩⟩⟩⟩⟩ (by kernel_rfl) (by kernel_rfl) (by kernel_rfl) (by kernel_rfl) (.inr (by kernel_rfl)) (Below.refl _ _) ?_
      refine chainP_soft (a1 := ?ma19) (by kernel_rfl) (by kernel_rfl) ?mh19 ?mr19
      case mh19 =>
        intro u hu E hE
        go_wp2
        rfl
      refine chainP_nck _ _ rfl rfl rfl ?_
      simp only [Act.put, List.getElem?_toArray, List.getElem?_cons_succ, List.getElem?_cons_zero, Option.bind_some, List.setIfInBounds_toArray, List.set_cons_succ, List.set_cons_zero, Nat.reduceAdd]
      refine chainP_soft (a1 := ?ma20) (by kernel_rfl) (by kernel_rfl) ?mh20 ?mr20
      case mh20 =>
        intro u hu E hE
        go_wp2
        rfl
      refine chainP_soft (a1 := ?ma21) (by kernel_rfl) (by kernel_rfl) ?mh21 ?mr21
      case mh21 =>
        intro u hu E hE
        have y3 := (row4r ((hu.block _ hrl).trans H2.out.row)).2.2.2
        go_wp2
        rfl
      refine chainP_soft (a1 := ?ma22) (by kernel_rfl) (by kernel_rfl) ?mh22 ?mr22
      case mh22 =>
        intro u hu E hE
        go_wp2
        rfl
      refine chainP_nck _ _ rfl rfl rfl ?_
      simp only [Act.put, List.getElem?_toArray, List.getElem?_cons_succ, List.getElem?_cons_zero, Option.bind_some, List.setIfInBounds_toArray, List.set_cons_succ, List.set_cons_zero, Nat.reduceAdd]
      refine chainP_soft (a1 := ?ma23) (by kernel_rfl) (by kernel_rfl) ?mh23 ?mr23
      case mh23 =>
        intro u hu E hE
        go_wp2
        rfl
      refine chainP_soft (a1 := ?ma24) (by kernel_rfl) (by kernel_rfl) ?mh24 ?mr24
      case mh24 =>
        intro u hu E hE
        have y3 := (row4r ((hu.block _ hrl).trans H2.out.row)).2.2.2
        go_wp2
        rfl
      refine chainP_soft (a1 := ?ma25) (by kernel_rfl) (by kernel_rfl) ?mh25 ?mr25
      case mh25 =>
        intro u hu E hE
        go_wp2
        rfl
      refine chainP_soft (a1 := ?ma26) (by kernel_rfl) (by kernel_rfl) ?mh26 ?mr26
      case mh26 =>
        intro u hu E hE
        go_wp2
        rfl
      refine chainP_soft (a1 := ?ma27) (by kernel_rfl) (by kernel_rfl) ?mh27 ?mr27
      case mh27 =>
        intro u hu E hE
        go_wp2
        rfl
      refine chainP_soft (a1 := ?ma28) (by kernel_rfl) (by kernel_rfl) ?mh28 ?mr28
      case mh28 =>
        intro u hu E hE
        have x0 := (hu.cell (p := ⟨g, n * 2, none⟩) hgl).trans x0'
        have x1 := (hu.cell (p := ⟨g, n * 2 + 1, none⟩) hgl).trans x1'
        go_wp2
        rfl
      refine chainP_one ?_
      intro E hE
      go_wp2
      have hb3 := below_new W0 (.cells #[.int .i64 0, .int .i64 0] 177 (0, 0))
      refine ⟨hb3, ?_⟩
      refine chainP_nil ?_
      refine rest_lineL 13 14 [_] rfl (by kernel_rfl) (by decide) (by decide) (by kernel_rfl) ?_
      go_wp2
      refine rest_end (by decide) ?_
      have hb4 := below_new W0 (.cells #[.int .i64 (x : Int), .int .i64 (y : Int)] 177 (0, 0))
      have hr4 := heap_alloc_new W0 (.cells #[.int .i64 (x : Int), .int .i64 (y : Int)] 177 (0, 0))
      obtain ⟨h4, s4, n4⟩ := H2.out.below hb4
      have hn4 := n4 W0.heap.size (Nat.le_refl _) (by simp)
      have H4 := Lib.hid h4
      have S4 := Lib.hid (S2.out.trans s4)
      have HR4 := Lib.hid hr4
      have HN4 := Lib.hid hn4
      clear hb3 hb4 hr4 h4 s4 n4 hn4 H2 S2 x0' x1'
      generalize W0.alloc (.cells #[.int .i64 (x : Int), .int .i64 (y : Int)] 177 (0, 0)) = W4 at *
      generalize W0.heap.size = pb at *
      go_wp2
      refine wp_region_rest (by kernel_rfl) ?_
      have hdr : Below W4.heap.size W4 W4.drew := (Below.refl _ _).drew
      obtain ⟨h5, s5, -⟩ := H4.out.below hdr
      have hr5 := (s5.blk pb HN4.out).2.trans HR4.out
      have hn5 := (s5.blk pb HN4.out).1
      have s5' := S4.out.trans s5
      clear hdr s5 H4 S4 HR4 HN4
      generalize W4.drew = W5 at *
      obtain ⟨y0, y1, y2, y3⟩ := row4r h5.row
      have hz3 := frozen_of_row _ rb 3 _ _ h5.row
      have hp := h5.pop
      rw [← HN.out] at hp
      obtain ⟨-, -, -, -, -, h6, s6⟩ := hp
      have hr6 := (s6.blk pb hn5).2.trans hr5
      have H6 := Lib.hid h6
      have S6 := Lib.hid (s5'.trans s6)
      have HR6 := Lib.hid hr6
      have HN6 := Lib.hid (s6.blk pb hn5).1
      clear h5 s5' h6 s6 hr6 hr5 hn5
      refine rest_chainP (fun u => u = W5) 0 12 (.soft 0 (.soft 1 (.soft 2 (.soft 3 (.soft 4 (.soft 5 (.soft 6 (.soft 7 (.soft 8 (.soft 9 (.soft 10 (.soft 11 .nil)))))))))))) (.soft _ (.soft _ (.soft _ (.soft _ (.soft _ (.soft _ (.soft _ (.soft _ (.soft _ (.soft _ (.soft _ (.soft _ .nil)))))))))))) ⟨rfl, ⟨rfl, ⟨rfl, ⟨rfl, ⟨rfl, ⟨rfl, ⟨rfl, ⟨rfl, ⟨rfl, ⟨rfl, ⟨rfl, ⟨rfl, trivial⟩⟩⟩⟩⟩⟩⟩⟩⟩⟩⟩⟩ (by kernel_rfl) (by kernel_rfl) (by kernel_rfl) (by kernel_rfl) (.inr (by kernel_rfl)) rfl ?_
      refine chainP_soft (a1 := ?ma29) (by kernel_rfl) (by kernel_rfl) ?mh29 ?mr29
      case mh29 =>
        intro u hu E hE
        subst hu
        go_wp2
        rfl
      refine chainP_soft (a1 := ?ma30) (by kernel_rfl) (by kernel_rfl) ?mh30 ?mr30
      case mh30 =>
        intro u hu E hE
        subst hu
        go_wp2
        rfl
      refine chainP_nck _ _ rfl rfl rfl ?_
      simp only [Act.put, List.getElem?_toArray, List.getElem?_cons_succ, List.getElem?_cons_zero, Option.bind_some, List.setIfInBounds_toArray, List.set_cons_succ, List.set_cons_zero, Nat.reduceAdd]
      refine chainP_soft (a1 := ?ma31) (by kernel_rfl) (by kernel_rfl) ?mh31 ?mr31
      case mh31 =>
        intro u hu E hE
        subst hu
        go_wp2
        rfl
      refine chainP_soft (a1 := ?ma32) (by kernel_rfl) (by kernel_rfl) ?mh32 ?mr32
      case mh32 =>
        intro u hu E hE
        subst hu
        go_wp2
        rfl
      refine chainP_soft (a1 := ?ma33) (by kernel_rfl) (by kernel_rfl) ?mh33 ?mr33
      case mh33 =>
        intro u hu E hE
        subst hu
        go_wp2
        rfl
      refine chainP_nck _ _ rfl rfl rfl ?_
      simp only [Act.put, List.getElem?_toArray, List.getElem?_cons_succ, List.getElem?_cons_zero, Option.bind_some, List.setIfInBounds_toArray, List.set_cons_succ, List.set_cons_zero, Nat.reduceAdd]
      refine chainP_soft (a1 := ?ma34) (by kernel_rfl) (by kernel_rfl) ?mh34 ?mr34
      case mh34 =>
        intro u hu E hE
        subst hu
        go_wp2
        rfl
      refine chainP_soft (a1 := ?ma35) (by kernel_rfl) (by kernel_rfl) ?mh35 ?mr35
      case mh35 =>
        intro u hu E hE
        subst hu
        go_wp2
        rfl
      refine chainP_soft (a1 := ?ma36) (by kernel_rfl) (by kernel_rfl) ?mh36 ?mr36
      case mh36 =>
        intro u hu E hE
        subst hu
        go_wp2
        rfl
      refine chainP_soft (a1 := ?ma37) (by kernel_rfl) (by kernel_rfl) ?mh37 ?mr37
      case mh37 =>
        intro u hu E hE
        subst hu
        go_wp2
        rfl
      refine chainP_soft (a1 := ?ma38) (by kernel_rfl) (by kernel_rfl) ?mh38 ?mr38
      case mh38 =>
        intro u hu E hE
        subst hu
        go_wp2
        rfl
      refine chainP_nil ?_
      refine rest_lineL 12 15 [_, _, _] rfl (by kernel_rfl) (by decide) (by decide) (by kernel_rfl) ?_
      go_wp2
      refine then_rest (rest_end (by decide) ?_)
      clear y0 y1 y2 y3 hz3
      generalize W5.setCell ⟨rb, 3, none⟩ (.slice (some ⟨g, 0, none⟩) n c8) = W6 at *
      have hxy := HAT.out.inn (x, y) (List.mem_cons_self ..)
      cases k with
      | zero =>
        have hr : uniP sf k0 k0 S [(a, b)] = (none, S', 0) := by rw [HAT.out.eq]; cases gk <;> rfl
        have HR := Lib.hid hr
        clear hr
        go_wp2_with fail
        refine (run_look_no H6.out).mono ?_
        rintro e7 w7 ⟨rfl, rfl⟩
        go_wp2
        go_ret2
        rw [HR.out]
        exact ⟨rfl, D', 0, W, _, H6.out, S6.out⟩
      | succ k =>
        obtain ⟨f, rfl⟩ : ∃ f, gk = f + 1 := ⟨gk - 1, by omega⟩
        have heq := HAT.out.eq
        have hu : uniP sf (f + 1) (k + 1) S' ((x, y) :: W) = match (oneP S' sf k x y).1 with
          | (some true, S2, k2) => uniP sf f k2 S2 ((oneP S' sf k x y).2 ++ W)
          | r => r := rfl
        rw [hu] at heq
        have HEQ := Lib.hid heq
        clear heq hu
        go_wp2_with fail
        refine (run_look H6.out).mono ?_
        rintro e7 w7 ⟨rfl, h7, k7⟩
        have hr7 := (k7.block pb HN6.out.2.2.2 HN6.out.2.1).trans HR6.out
        have hc0 : w7.cell? ⟨pb, 0, none⟩ = some (.int .i64 (x : Int)) := by simpa using cell_of_row _ pb 0 _ _ _ hr7
        have hc1' : w7.cell? ⟨pb, 1, none⟩ = some (.int .i64 (y : Int)) := by simpa using cell_of_row _ pb 1 _ _ _ hr7
        have H7 := Lib.hid h7
        have S7 := Lib.hid (S6.out.trans k7.rstep)
        have hwl : W.length ≤ 100000000 := by have := HN.out; omega
        have hmore := oneP_more HAT.out.run.inv (sf := sf) (k := k) hxy.1 hxy.2
        have hext := oneP_ext HAT.out.run.inv (sf := sf) (k := k) hxy.1 hxy.2
        have hle := oneP_le S' sf k x y
        have hml := oneP_len HAT.out.run.inv (sf := sf) (k := k) (b := y) hxy.1
        have HMORE := Lib.hid hmore
        have HEXT := Lib.hid hext
        have HLE := Lib.hid hle
        have HML := Lib.hid hml
        clear h7 k7 hr7 H6 S6 HR6 HN6 hmore hext hle hml
        go_wp2_with fail
        refine (run_one H7.out hwl x y hxy.1 hxy.2).mono ?_
        rintro e8 w8 ⟨rfl, D8, wv8, h8, s8⟩
        have H8 := Lib.hid h8
        have S8 := Lib.hid (S7.out.trans s8)
        clear h8 s8 hc0 hc1' H7 S7
        generalize oneP S' sf k x y = r at *
        obtain ⟨⟨o, S2, k2⟩, more⟩ := r
        dsimp only at H8 HMORE HEXT HLE HML
        cases o with
        | none =>
          have HR := Lib.hid HEQ.out
          simp only [hasB, hasE]
          go_wp2
          go_ret2
          rw [HR.out]
          exact ⟨rfl, D8, k2, _, wv8, H8.out, S8.out⟩
        | some o =>
          cases o with
          | false =>
            have HR := Lib.hid HEQ.out
            simp only [hasB, hasE]
            go_wp2
            go_ret2
            rw [HR.out]
            exact ⟨rfl, D8, k2, _, wv8, H8.out, S8.out⟩
          | true =>
            have hl2 := HLE.out
            have hl3 := HML.out
            have hlen := HAT.out.len
            simp only [List.length_cons] at hlen
            have hrel : AllRel w0 p rb sf S k0 [(a, b)] D wv w f w8 :=
              ⟨S2, D8, k2, more ++ W, wv8, H8.out, S8.out, by omega, HAT.out.inn.next HMORE.out HEXT.out.len, HEQ.out, by rw [List.length_append]; have := H8.out.kle; omega⟩
            have HREL := Lib.hid hrel
            clear hrel hlen hl2 hl3
            simp only [hasB, hasE]
            go_wp2
            go_roundg f
            case measure => omega
            case rel => exact HREL.out
/-- what Unify tells -/
noncomputable def uniR (S : Sto) (sf : Bool) (a b : Nat) : Option Bool := (uniP sf 20000 20000 S [(a, b)]).1
/-- the store behind it -/
noncomputable def uniW (S : Sto) (sf : Bool) (a b : Nat) : Sto := if uniR S sf a b = some true then (uniP sf 20000 20000 S [(a, b)]).2.1 else S
theorem inl1 {S : Sto} {a b : Nat} (ha : a < S.cells.length) (hb : b < S.cells.length) : InL S [(a, b)] := fun q hq => by simp only [List.mem_singleton] at hq; rw [hq]; exact ⟨ha, hb⟩
theorem uniW_ext {S : Sto} (hS : Inv S) {sf : Bool} {a b : Nat} (ha : a < S.cells.length) (hb : b < S.cells.length) : Ext S (uniW S sf a b) := by
  unfold uniW
  split
  · exact uniP_ext sf _ _ S _ hS (inl1 ha hb)
  · exact .refl hS
theorem un_cell {S : Sto} {D : Nat → Prop} {p : Nat} (w : World) (hS : StoAt w D p S) (hI : Inv S) (x : Nat) (hx : x < S.cells.length) :
    Calls Try.prog 92 #[.pointer (some ⟨p, 0, none⟩), .int .i64 x] w fun e w' => e = .returned (.bool true) ∧ w = w' := by
  obtain ⟨f, hc, -⟩ := hI.stoIn.fol hx
  have HC := Lib.hid hc
  have HS := Lib.hid hS
  clear hc hS
  go_enter Try.func92, Try.ntmps92
  go_wp2_with fail
  refine (sto_Follow w HS.out f x _ HC.out).mono ?_
  rintro e1 w1 ⟨rfl, rfl⟩
  have b1 : decide ((0 : Int) ≤ (fol S x : Int)) = true := by simp
  go_wp2
  go_ret
  exact ⟨rfl, rfl⟩
theorem un_cell_no {S : Sto} {D : Nat → Prop} {p : Nat} (w : World) (hS : StoAt w D p S) (x : Int) (hx : ¬ (0 ≤ x ∧ x < S.cells.length)) :
    Calls Try.prog 92 #[.pointer (some ⟨p, 0, none⟩), .int .i64 x] w fun e w' => e = .returned (.bool false) ∧ w = w' := by
  have HS := Lib.hid hS
  have HX := Lib.hid hx
  clear hS hx
  go_enter Try.func92, Try.ntmps92
  go_wp2_with fail
  refine (sto_Follow_no w HS.out x HX.out).mono ?_
  rintro e1 w1 ⟨rfl, rfl⟩
  go_wp2
  go_ret
  exact ⟨rfl, rfl⟩
theorem un_cell_nil (w : World) (x : Int) : Calls Try.prog 92 #[.pointer none, .int .i64 x] w fun e w' => e = .returned (.bool false) ∧ w = w' := by
  go_enter Try.func92, Try.ntmps92
  go_wp2
  go_ret
  exact ⟨rfl, rfl⟩
/-- the run is made -/
theorem run_made {w0 w : World} {p : Nat} {sf : Bool} {S : Sto} {D : Nat → Prop} (h : Law8 w0 p S D w) (hI : Inv S) : RunAt w0 p w.heap.size sf S D 20000 [] (.slice none 0 0) (w.alloc (ruO p sf 0 (.slice none 0 0))) ∧ (∀ b, Free D w b → ROut w.heap.size D (.slice none 0 0) (w.alloc (ruO p sf 0 (.slice none 0 0))) b) := by
  obtain ⟨h1, h2, h3, h4⟩ := h.alloc (ruO p sf 0 (.slice none 0 0))
  exact ⟨⟨h1, hI, h4, Own.nil _ _ _, Nat.le_refl _, h3.1, h.bel.size, fun b e => by cases e⟩, fun b hb => ⟨hb.1, by have := hb.2; omega, fun e => (by cases e), by have := hb.2; simp; omega⟩⟩
theorem all_step {w0 w w' : World} {p : Nat} {sf : Bool} {S S' : Sto} {D : Nat → Prop} (h : Law8 w0 p S D w) (hI : Inv S) (hd : AllDid w0 p w.heap.size sf D (.slice none 0 0) (w.alloc (ruO p sf 0 (.slice none 0 0))) S' w') : LawDid w0 p D w S' w' := by
  obtain ⟨D', k, W, wv', h1, h2⟩ := hd
  refine ⟨D', h1.law, by have := h2.size; simp at this; omega, fun b hb => ?_⟩
  have h3 := (run_made (sf := sf) h hI).2 b hb
  obtain ⟨h4, h5⟩ := h2.blk b h3
  exact ⟨⟨h4.1, h4.2.2.2⟩, h5.trans (Below.heap_alloc w _ b hb.2)⟩
set_option maxRecDepth 100000 in
set_option maxHeartbeats 4000000 in
theorem un_begin {w0 w : World} {p : Nat} {S : Sto} {D : Nat → Prop} (h : Law8 w0 p S D w) (hI : Inv S) (sf : Bool) (a b : Nat) (ha : a < S.cells.length) (hb : b < S.cells.length) :
    Calls Try.prog 90 #[.pointer (some ⟨p, 0, none⟩), .int .i64 a, .int .i64 b, .bool sf] w fun e w' => e = .returned (.tuple #[.bool (hasB (uniR S sf a b)), .int .i64 (hasE (uniR S sf a b))]) ∧ LawDid w0 p D w (uniW S sf a b) w' := by
  have hm := run_made (sf := sf) h hI
  have hext := uniP_ext sf 20000 20000 S [(a, b)] hI (inl1 ha hb)
  have H := Lib.hid h
  have HI := Lib.hid hI
  have HM := Lib.hid hm.1
  have HEX := Lib.hid hext
  have hf := fun (u : World) (S' : Sto) => @all_step w0 w u p sf S S' D h hI
  have HF := Lib.hid hf
  clear h hI hm hext hf
  go_enter Try.func90, Try.ntmps90
  go_wp2_with fail
  refine (un_cell w H.out.sto HI.out a ha).mono ?_
  rintro e1 w1 ⟨rfl, rfl⟩
  go_wp2_with fail
  refine (un_cell w H.out.sto HI.out b hb).mono ?_
  rintro e1 w1 ⟨rfl, rfl⟩
  go_wp2_with fail
  refine (sto_Mark w H.out.sto).mono ?_
  rintro e1 w1 ⟨rfl, rfl⟩
  go_wp2_with fail
  refine (run_all HM.out a b ha hb).mono ?_
  rintro e2 w2 ⟨rfl, hd⟩
  have hd2 := HF.out w2 _ hd
  have HD2 := Lib.hid hd2
  clear hd hd2 HM HF
  have hr : uniR S sf a b = (uniP sf 20000 20000 S [(a, b)]).1 := rfl
  have hw : uniW S sf a b = if (uniP sf 20000 20000 S [(a, b)]).1 = some true then (uniP sf 20000 20000 S [(a, b)]).2.1 else S := rfl
  have HR := Lib.hid hr
  have HW := Lib.hid hw
  generalize uniP sf 20000 20000 S [(a, b)] = r at *
  obtain ⟨o, S2, k2⟩ := r
  dsimp only at HD2 HEX HR HW
  have key : ∀ u, LawDid w0 p D w S2 u → Calls Try.prog 24 #[.pointer (some ⟨p, 0, none⟩), .int .i64 S.bonds.length] u (fun e w' => e = .returned (.tuple #[]) ∧ LawDid w0 p D w S w') := by
    rintro u ⟨D', g1, g2⟩
    refine (law_Undo g1 HEX.out.inv S.bonds.length).mono ?_
    rintro e w' ⟨rfl, D'', g3, g4⟩
    rw [HEX.out.since.undo] at g3
    exact ⟨rfl, D'', g3, g2.trans g4⟩
  have KEY := Lib.hid key
  clear hr hw key
  cases o with
  | none =>
    simp only [hasB, hasE]
    go_wp2_with fail
    refine (KEY.out w2 HD2.out).mono ?_
    rintro e3 w3 ⟨rfl, hd3⟩
    have HD3 := Lib.hid hd3
    clear hd3
    go_wp2
    go_ret2
    rw [HR.out, HW.out]
    exact ⟨rfl, by rw [if_neg (by simp)]; exact HD3.out⟩
  | some o =>
    cases o with
    | false =>
      simp only [hasB, hasE]
      go_wp2_with fail
      refine (KEY.out w2 HD2.out).mono ?_
      rintro e3 w3 ⟨rfl, hd3⟩
      have HD3 := Lib.hid hd3
      clear hd3
      go_wp2
      go_ret2
      rw [HR.out, HW.out]
      exact ⟨rfl, by rw [if_neg (by simp)]; exact HD3.out⟩
    | true =>
      simp only [hasB, hasE]
      go_wp2
      go_ret2
      rw [HR.out, HW.out]
      exact ⟨rfl, by simp only [if_true]; exact HD2.out⟩
theorem un_Unify {w0 w : World} {p : Nat} {S : Sto} {D : Nat → Prop} (h : Law8 w0 p S D w) (hI : Inv S) (a b : Nat) (ha : a < S.cells.length) (hb : b < S.cells.length) :
    Calls Try.prog 48 #[.pointer (some ⟨p, 0, none⟩), .int .i64 a, .int .i64 b] w fun e w' => e = .returned (.tuple #[.bool (hasB (uniR S false a b)), .int .i64 (hasE (uniR S false a b))]) ∧ LawDid w0 p D w (uniW S false a b) w' := by
  have H := Lib.hid (un_begin h hI false a b ha hb)
  clear h hI
  go_enter Try.func48, Try.ntmps48
  go_wp2_with fail
  refine H.out.mono ?_
  rintro e1 w1 ⟨rfl, hd⟩
  have HD := Lib.hid hd
  clear hd H
  go_wp2
  go_ret2
  exact ⟨rfl, HD.out⟩
theorem un_Safely {w0 w : World} {p : Nat} {S : Sto} {D : Nat → Prop} (h : Law8 w0 p S D w) (hI : Inv S) (a b : Nat) (ha : a < S.cells.length) (hb : b < S.cells.length) :
    Calls Try.prog 49 #[.pointer (some ⟨p, 0, none⟩), .int .i64 a, .int .i64 b] w fun e w' => e = .returned (.tuple #[.bool (hasB (uniR S true a b)), .int .i64 (hasE (uniR S true a b))]) ∧ LawDid w0 p D w (uniW S true a b) w' := by
  have H := Lib.hid (un_begin h hI true a b ha hb)
  clear h hI
  go_enter Try.func49, Try.ntmps49
  go_wp2_with fail
  refine H.out.mono ?_
  rintro e1 w1 ⟨rfl, hd⟩
  have HD := Lib.hid hd
  clear hd H
  go_wp2
  go_ret2
  exact ⟨rfl, HD.out⟩
/-- cells that there aren't are refused -/
theorem un_begin_no {S : Sto} {D : Nat → Prop} {p : Nat} (w : World) (hS : StoAt w D p S) (hI : Inv S) (sf : Bool) (a b : Int) (hx : ¬ (0 ≤ a ∧ a < S.cells.length) ∨ ¬ (0 ≤ b ∧ b < S.cells.length)) :
    Calls Try.prog 90 #[.pointer (some ⟨p, 0, none⟩), .int .i64 a, .int .i64 b, .bool sf] w fun e w' => e = .returned (.tuple #[.bool false, .int .i64 2]) ∧ w = w' := by
  have HS := Lib.hid hS
  by_cases h1 : 0 ≤ a ∧ a < S.cells.length
  · have h2 := hx.resolve_left fun h => h h1
    obtain ⟨a, rfl⟩ : ∃ n : Nat, a = n := ⟨a.toNat, by omega⟩
    have h3 : a < S.cells.length := by omega
    have H2 := Lib.hid h2
    clear hx h1 h2 hS
    go_enter Try.func90, Try.ntmps90
    go_wp2_with fail
    refine (un_cell w HS.out hI a h3).mono ?_
    rintro e1 w1 ⟨rfl, rfl⟩
    go_wp2_with fail
    refine (un_cell_no w HS.out b H2.out).mono ?_
    rintro e1 w1 ⟨rfl, rfl⟩
    go_wp2
    go_ret2
    exact ⟨rfl, rfl⟩
  · have H1 := Lib.hid h1
    clear hx h1 hS
    go_enter Try.func90, Try.ntmps90
    go_wp2_with fail
    refine (un_cell_no w HS.out a H1.out).mono ?_
    rintro e1 w1 ⟨rfl, rfl⟩
    go_wp2
    go_ret2
    exact ⟨rfl, rfl⟩
theorem un_Unify_no {S : Sto} {D : Nat → Prop} {p : Nat} (w : World) (hS : StoAt w D p S) (hI : Inv S) (a b : Int) (hx : ¬ (0 ≤ a ∧ a < S.cells.length) ∨ ¬ (0 ≤ b ∧ b < S.cells.length)) :
    Calls Try.prog 48 #[.pointer (some ⟨p, 0, none⟩), .int .i64 a, .int .i64 b] w fun e w' => e = .returned (.tuple #[.bool false, .int .i64 2]) ∧ w = w' := by
  have H := Lib.hid (un_begin_no w hS hI false a b hx)
  clear hx hS
  go_enter Try.func48, Try.ntmps48
  go_wp2_with fail
  refine H.out.mono ?_
  rintro e1 w1 ⟨rfl, rfl⟩
  go_wp2
  go_ret2
  exact ⟨rfl, rfl⟩
theorem un_begin_nil (w : World) (a b : Int) (sf : Bool) : Calls Try.prog 90 #[.pointer none, .int .i64 a, .int .i64 b, .bool sf] w fun e w' => e = .returned (.tuple #[.bool false, .int .i64 2]) ∧ w = w' := by
  go_enter Try.func90, Try.ntmps90
  go_wp2_with fail
  refine (un_cell_nil _ _).mono ?_
  rintro e1 w1 ⟨rfl, rfl⟩
  go_wp2
  go_ret2
  exact ⟨rfl, rfl⟩
theorem un_Unify_nil (w : World) (a b : Int) : Calls Try.prog 48 #[.pointer none, .int .i64 a, .int .i64 b] w fun e w' => e = .returned (.tuple #[.bool false, .int .i64 2]) ∧ w = w' := by
  go_enter Try.func48, Try.ntmps48
  go_wp2_with fail
  refine (un_begin_nil _ _ _ _).mono ?_
  rintro e1 w1 ⟨rfl, rfl⟩
  go_wp2
  go_ret2
  exact ⟨rfl, rfl⟩
/-- what Has tells of a variable and a cell -/
noncomputable def hasV (S : Sto) (v at_ : Nat) : Option Bool := (hasP S (fol S v) 20000 [at_]).1
set_option maxRecDepth 100000 in
set_option maxHeartbeats 4000000 in
theorem un_Has {w0 w : World} {p : Nat} {S : Sto} {D : Nat → Prop} (h : Law8 w0 p S D w) (hI : Inv S) (v at_ : Nat) (hv : v < S.cells.length) (ha : at_ < S.cells.length) (hk : (cellF S v).k = 1) :
    Calls Try.prog 51 #[.pointer (some ⟨p, 0, none⟩), .int .i64 v, .int .i64 at_] w fun e w' => e = .returned (.tuple #[.bool (hasB (hasV S v at_)), .int .i64 (hasE (hasV S v at_))]) ∧ Law8 w0 p S D w' ∧ Step D w D w' := by
  obtain ⟨fv, cv, gv⟩ := hI.stoIn.fol hv
  have okv := hI.cell _ _ gv
  have hal := okv.len
  have hsm := hI.small
  have hlook := sto_Look w h.sto fv v _ _ cv gv (by omega) (by omega)
  rw [show shellC (fol S v) (cellF S v) = .mk 1 (fol S v) ⟨#[]⟩ [] from if_pos hk] at hlook
  have HLOOK := Lib.hid hlook
  have H := Lib.hid h
  have HI := Lib.hid hI
  have HCV := Lib.hid cv
  clear h hI okv cv gv hk hlook
  have hrv : fol S v < S.cells.length := HI.out.fol_lt hv
  have hv2 : hasV S v at_ = (hasP S (fol S v) 20000 [at_]).1 := rfl
  rw [hv2]
  clear hv2
  obtain ⟨R, hR⟩ : ∃ R, R = fol S v := ⟨_, rfl⟩
  rw [← hR] at HLOOK HCV ⊢
  have HR := Lib.hid hR
  clear hR hrv
  go_enter Try.func51, Try.ntmps51
  go_wp2_with fail
  refine (un_cell w H.out.sto HI.out v hv).mono ?_
  rintro e1 w1 ⟨rfl, rfl⟩
  go_wp2_with fail
  refine (un_cell w H.out.sto HI.out at_ ha).mono ?_
  rintro e1 w1 ⟨rfl, rfl⟩
  go_wp2_with fail
  refine HLOOK.out.mono ?_
  rintro e3 w3 ⟨av, he3, hav, hb3⟩
  obtain rfl : e3 = .returned (.tuple #[.agg #[.int .i64 1, .int .i64 (R : Int), .string ⟨#[]⟩, .slice none 0 0], av]) := he3
  have hb4 := hb3.trans ((below_new w3 (.cells #[.int .i64 1, .int .i64 (R : Int), .string ⟨#[]⟩, .slice none 0 0] 33 (0, 0))).mono hb3.size)
  have hr4 := heap_alloc_new w3 (.cells #[.int .i64 1, .int .i64 (R : Int), .string ⟨#[]⟩, .slice none 0 0] 33 (0, 0))
  obtain ⟨u0, u1, u2, u3⟩ := row4 hr4
  obtain ⟨l4, s4, -⟩ := H.out.below hb4
  have hm := run_made (sf := false) l4 HI.out
  have L4 := Lib.hid l4
  have S4 := Lib.hid s4
  have HM := Lib.hid hm
  clear hav hb3 hb4 hr4 l4 s4 hm HLOOK
  dsimp only
  go_upto_region 6 with fail
  generalize w3.alloc (.cells #[.int .i64 1, .int .i64 (R : Int), .string ⟨#[]⟩, .slice none 0 0] 33 (0, 0)) = w4 at *
  generalize w3.heap.size = xr at *
  clear u0 u1 u2 u3
  go_wp2_with fail
  refine (sto_Follow _ HM.out.1.law.sto fv v R HCV.out).mono ?_
  rintro e5 w5 ⟨rfl, rfl⟩
  go_wp2_with fail
  refine (run_has HM.out.1 R at_ ha).mono ?_
  rintro e6 w6 ⟨rfl, h6, k6⟩
  have hz : (w4.alloc (ruO p false 0 (.slice none 0 0))).heap.size = w4.heap.size + 1 := by simp
  have hst : Step D w4 D w6 := ⟨by have := k6.size; omega, fun b hb => by
    have h3 := HM.out.2 b hb
    exact ⟨⟨hb.1, by have := k6.size; have := hb.2; omega⟩, (k6.block b h3.2.2.2 h3.2.1).trans (Below.heap_alloc w4 _ b hb.2)⟩⟩
  have L6 := Lib.hid h6.law
  have S6 := Lib.hid (S4.out.trans hst)
  clear h6 k6 hst hz HM
  go_wp2
  go_ret2
  exact ⟨rfl, L6.out, S6.out⟩
end Go.Proofs.Ytoklbeogmcdgaaa.Tms
