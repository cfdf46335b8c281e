/-
  Layer texts, glued and made small.
-/
import Derived.Test.YtcbijikalfodnaaG10
set_option linter.unusedVariables false
set_option linter.unusedSimpArgs false
set_option maxRecDepth 100000
set_option maxHeartbeats 8000000
namespace Go.Proofs.Ytcbijikalfodnaa.Tms
open Go Go.RowKit Go.Proofs.Ytcbijikalfodnaa.Reg Go.Proofs.Ytcbijikalfodnaa.Rws Go.Proofs.Ytcbijikalfodnaa.Maps
structure CellOk (n : Nat) (c : SCell) : Prop where
 len : c.args.length ≤ 255
 args : ∀ a ∈ c.args, 0 ≤ a ∧ a < n
 lk : c.lk = -1 ∨ (0 ≤ c.lk ∧ c.lk < n ∧ c.k = 1)
 var : c.k = 1 → c.args = []
structure Inv (S : Sto) : Prop where
 len : (S.cells.length : Int) ≤ S.room
 room : S.room ≤ 16777216
 cell : ∀ (x : Nat) (c : SCell), S.cells[x]? = some c → CellOk S.cells.length c
 rank : ∃ rk : Nat → Nat, ∀ (x : Nat) (c : SCell), S.cells[x]? = some c → ∀ y : Nat, c.lk = (y : Int) → rk y < rk x
 bond : ∀ b ∈ S.bonds, ∃ (v : Nat) (c : SCell), b.1 = (v : Int) ∧ S.cells[v]? = some c ∧ 0 ≤ c.lk
 nodup : (S.bonds.map (·.1)).Nodup
theorem nodup_len : ∀ (n : Nat) (l : List Nat), l.Nodup → (∀ x ∈ l, x < n) → l.length ≤ n
 | 0, l, _, h => by
   cases l with
   | nil => simp
   | cons a l => exact absurd (h a (by simp)) (by omega)
 | n + 1, l, hn, h => by
   have h1 := nodup_len n (l.filter fun x => decide (x < n)) (hn.sublist List.filter_sublist) (fun x hx => by simpa using (List.mem_filter.1 hx).2)
   have h2 : l.countP (fun x => !decide (x < n)) ≤ 1 := by
    have e : l.countP (fun x => !decide (x < n)) = l.count n := by
     unfold List.count
     apply List.countP_congr
     intro x hx; have := h x hx
     simp
     omega
    rw [e]; exact List.nodup_iff_count.1 hn n
   have h3 := List.length_eq_countP_add_countP (fun x => decide (x < n)) (l := l); rw [List.countP_eq_length_filter] at h3
   have h4 : l.countP (fun a => decide ¬(decide (a < n)) = true) = l.countP (fun x => !decide (x < n)) := by
    apply List.countP_congr; intro x _; simp
   omega
theorem Inv.small {S : Sto} (h : Inv S) : S.cells.length ≤ 16777216 := by have := h.len; have := h.room; omega
theorem Inv.room0 {S : Sto} (h : Inv S) : 0 ≤ S.room := by have := h.len; omega
theorem Inv.bsmall {S : Sto} (h : Inv S) : S.bonds.length ≤ S.cells.length := by
 have h1 := nodup_len S.cells.length (S.bonds.map fun b => b.1.toNat) ?_ ?_
 ·simpa using h1
 ·have e : (S.bonds.map fun b => b.1.toNat) = (S.bonds.map (·.1)).map Int.toNat := by simp
  rw [e]; have hn := h.nodup; rw [List.nodup_iff_pairwise_ne] at hn ⊢; rw [List.pairwise_map]; refine hn.imp_of_mem fun {a b} ha hb hab e => hab ?_
  obtain ⟨b1, hb1, rfl⟩ := List.mem_map.1 ha; obtain ⟨b2, hb2, rfl⟩ := List.mem_map.1 hb; obtain ⟨v1, -, e1, -⟩ := h.bond b1 hb1; obtain ⟨v2, -, e2, -⟩ := h.bond b2 hb2; rw [e1, e2] at e ⊢
  simp at e
  rw [e]
 ·intro x hx
  obtain ⟨b, hb, rfl⟩ := List.mem_map.1 hx; obtain ⟨v, c, e, hc, -⟩ := h.bond b hb; rw [e]; exact (List.getElem?_eq_some_iff.1 hc).1
theorem Inv.ch {S : Sto} (h : Inv S) : ∀ x, x < S.cells.length → ∃ f r, Ch S f x r := by
 obtain ⟨rk, hr⟩ := h.rank; intro x; generalize hn : rk x = n
 induction n using Nat.strongRecOn generalizing x with
 | _ n ih =>
   intro hx; have hc := List.getElem?_eq_getElem hx; rcases (h.cell x _ hc).lk with e | ⟨h0, h1, -⟩
   ·exact ⟨0, x, hx, by rw [e]; decide, rfl⟩
   ·obtain ⟨y, hy⟩ : ∃ y : Nat, S.cells[x].lk = (y : Int) := ⟨S.cells[x].lk.toNat, by omega⟩
    have hlt := hr x _ hc y hy; rw [hn] at hlt; obtain ⟨f, r, hf⟩ := ih (rk y) hlt y rfl (by omega); exact ⟨f + 1, r, hx, y, hy, hf⟩
theorem Inv.bnd {S : Sto} (h : Inv S) : ∀ b ∈ S.bonds, 0 ≤ b.1 ∧ b.1 < S.cells.length := fun b hb => by
 obtain ⟨v, c, e, hc, -⟩ := h.bond b hb; have := (List.getElem?_eq_some_iff.1 hc).1; omega
theorem Inv.stoOk {S : Sto} (h : Inv S) : StoOk S := ⟨by have := h.small; omega, by have := h.small; have := h.bsmall; omega, h.ch, h.bnd⟩
theorem Inv.bndOk {S : Sto} (h : Inv S) : BndOk S := ⟨by have := h.small; have := h.bsmall; omega, h.bnd⟩
theorem Inv.stoIn {S : Sto} (h : Inv S) : StoIn S := ⟨by have := h.small; omega, h.ch, fun c hc => by
 obtain ⟨x, hx, rfl⟩ := List.mem_iff_getElem.1 hc; have := h.cell x _ (List.getElem?_eq_getElem hx); exact ⟨by have := this.len; omega, this.args⟩⟩
theorem Inv.folch {S : Sto} (h : Inv S) {x : Nat} (hx : x < S.cells.length) : ∃ f, Ch S f x (fol S x) := let ⟨f, h1, _⟩ := h.stoIn.fol hx; ⟨f, h1⟩
theorem Inv.fol_lt {S : Sto} (h : Inv S) {x : Nat} (hx : x < S.cells.length) : fol S x < S.cells.length := by obtain ⟨f, hc⟩ := h.folch hx; exact hc.end_.1
theorem Inv.fol_free {S : Sto} (h : Inv S) {x : Nat} (hx : x < S.cells.length) : (S.cells[fol S x]'(h.fol_lt hx)).lk = -1 := by
 obtain ⟨f, hc⟩ := h.folch hx; obtain ⟨h1, h2⟩ := hc.end_; rcases (h.cell _ _ (List.getElem?_eq_getElem h1)).lk with e | e
 ·exact e
 ·omega
theorem fol_root {S : Sto} {x : Nat} {c : SCell} (hc : S.cells[x]? = some c) (hl : c.lk = -1) : fol S x = x := by
 obtain ⟨hx, rfl⟩ := List.getElem?_eq_some_iff.1 hc; exact fol_eq (f := 0) ⟨hx, by rw [hl]; decide, rfl⟩
theorem Inv.fol_fol {S : Sto} (h : Inv S) {x : Nat} (hx : x < S.cells.length) : Tms.fol S (Tms.fol S x) = Tms.fol S x := fol_root (List.getElem?_eq_getElem (h.fol_lt hx)) (h.fol_free hx)
theorem Inv.new (n : Int) (h : 0 ≤ n) (h2 : n ≤ 16777216) : Inv ⟨n, [], []⟩ := ⟨by simpa using h, h2, fun x c hc => by simp at hc, ⟨fun _ => 0, fun x c hc => by simp at hc⟩, by simp, by simp⟩
theorem CellOk.mono {n m : Nat} {c : SCell} (h : CellOk n c) (hm : n ≤ m) : CellOk m c := ⟨h.len, fun a ha => by have := h.args a ha; omega, h.lk.imp_right fun h => ⟨h.1, by omega, h.2.2⟩, h.var⟩
theorem Inv.plus {S : Sto} (h : Inv S) (l : List SCell) (hl : ∀ c ∈ l, CellOk (S.cells.length + l.length) c ∧ c.lk = -1) (hr : ((S.cells.length + l.length : Nat) : Int) ≤ S.room) : Inv (plusS S l) := by
 obtain ⟨rk, hrk⟩ := h.rank
 have old : ∀ x c, (plusS S l).cells[x]? = some c → (S.cells[x]? = some c ∧ x < S.cells.length) ∨ c ∈ l := fun x c hc => by
  show _ ∨ _; have hc : (S.cells ++ l)[x]? = some c := hc
  by_cases hx : x < S.cells.length
  ·rw [List.getElem?_append_left hx] at hc; exact .inl ⟨hc, hx⟩
  ·rw [List.getElem?_append_right (by omega)] at hc; exact .inr (List.mem_of_getElem? hc)
 refine ⟨by simpa [plusS] using hr, h.room, fun x c hc => ?_, ⟨rk, fun x c hc y hy => ?_⟩, fun b hb => ?_, h.nodup⟩
 ·have e : (plusS S l).cells.length = S.cells.length + l.length := by simp [plusS]
  rw [e]; rcases old x c hc with ⟨h1, -⟩ | h1
  ·exact (h.cell x c h1).mono (by omega)
  ·exact (hl c h1).1
 ·rcases old x c hc with ⟨h1, -⟩ | h1
  ·exact hrk x c h1 y hy
  ·rw [(hl c h1).2] at hy; omega
 ·obtain ⟨v, c, e, hc, h0⟩ := h.bond b hb
  refine ⟨v, c, e, ?_, h0⟩; show (S.cells ++ l)[v]? = some c; rw [List.getElem?_append_left (List.getElem?_eq_some_iff.1 hc).1]; exact hc
theorem Inv.fresh {S : Sto} (h : Inv S) (hr : (S.cells.length : Int) < S.room) : Inv (freshS S) :=
 h.plus [⟨1, 0, ⟨#[]⟩, [], -1, lastTop S.cells⟩] (by
  intro c hc; simp only [List.mem_singleton] at hc; subst hc; exact ⟨⟨by simp, by simp, .inl rfl, fun _ => rfl⟩, rfl⟩) (by simp; omega)
theorem bindS_cells {S : Sto} {v t : Nat} (hv : v < S.cells.length) : (bindS S v t).cells = S.cells.set v { S.cells[v] with lk := (t : Int) } := setTo_at hv
theorem loose_bind {S : Sto} {v t : Nat} (hv : v < S.cells.length) (hl : (S.cells[v]).lk = -1) : looseS (bindS S v t) = S := by
 have hb : (bindS S v t).bonds = S.bonds ++ [((v : Int), topB S.bonds (max v t))] := rfl; rw [looseS_at hb]; have hvl : v < (bindS S v t).cells.length := by rw [bindS_cells hv]; simpa using hv
 have e : setTo (bindS S v t) v (-1) = S.cells := by
  rw [setTo_at hvl]
  have hg : (bindS S v t).cells[v] = { S.cells[v] with lk := (t : Int) } := by
   have : (bindS S v t).cells[v]? = some { S.cells[v] with lk := (t : Int) } := by rw [bindS_cells hv]; simp [hv]
   rw [List.getElem?_eq_getElem hvl] at this; exact Option.some.inj this
  rw [hg, bindS_cells hv, List.set_set]
  have : ({ ({ S.cells[v] with lk := (t : Int) } : SCell) with lk := -1 } : SCell) = S.cells[v] := by
   rw [← hl]
  rw [this, List.set_getElem_self]
 rw [e]; rfl
theorem Inv.bind {S : Sto} (h : Inv S) {v t : Nat} (hv : v < S.cells.length) (ht : t < S.cells.length) (hvl : (S.cells[v]).lk = -1) (htl : (S.cells[t]).lk = -1) (hk : (S.cells[v]).k = 1) (hne : v ≠ t) : Inv (bindS S v t) := by
 obtain ⟨rk, hrk⟩ := h.rank; have hc := bindS_cells (t := t) hv; have hlen : (bindS S v t).cells.length = S.cells.length := by rw [hc]; simp
 have get : ∀ x c, (bindS S v t).cells[x]? = some c → (x ≠ v ∧ S.cells[x]? = some c) ∨ (x = v ∧ c = { S.cells[v] with lk := (t : Int) }) := fun x c h' => by
  rw [hc, List.getElem?_set] at h'
  by_cases e : v = x
  ·subst e; rw [if_pos rfl, if_pos hv] at h'; exact .inr ⟨rfl, (Option.some.inj h').symm⟩
  ·rw [if_neg e] at h'; exact .inl ⟨fun h => e h.symm, h'⟩
 refine ⟨by rw [hlen]; exact h.len, h.room, fun x c hx => ?_, ⟨fun y => if Tms.fol S y = v then rk y + (rk t + 1) else rk y, fun x c hx y hy => ?_⟩, fun b hb => ?_, ?_⟩
 ·rw [hlen]
  rcases get x c hx with ⟨-, h1⟩ | ⟨rfl, rfl⟩
  ·exact h.cell x c h1
  ·have hcv := h.cell x _ (List.getElem?_eq_getElem hv)
   exact ⟨hcv.len, hcv.args, .inr ⟨by simp, by simp; exact ht, hk⟩, hcv.var⟩
 ·rcases get x c hx with ⟨hxv, h1⟩ | ⟨rfl, rfl⟩
  ·have hlt := hrk x c h1 y hy
   have hxl := (List.getElem?_eq_some_iff.1 h1).1
   have hyl : y < S.cells.length := by
    rcases (h.cell x c h1).lk with e | e
    ·omega
    ·omega
   have hf : Tms.fol S x = Tms.fol S y := by
    obtain ⟨f, hf⟩ := h.folch hyl; exact fol_eq (f := f + 1) ⟨hxl, y, by rw [(List.getElem?_eq_some_iff.1 h1).2]; exact hy, hf⟩
   dsimp only; rw [hf]
   split <;> omega
  ·have e : y = t := by simp only [Int.ofNat_inj] at hy; exact hy.symm
   subst e; have h1 : Tms.fol S x = x := fol_root (List.getElem?_eq_getElem hv) hvl; have h2 : Tms.fol S y = y := fol_root (List.getElem?_eq_getElem ht) htl; dsimp only; rw [if_pos h1, h2, if_neg (fun e => hne e.symm)]; omega
 ·have hb : b ∈ S.bonds ++ [((v : Int), topB S.bonds (max v t))] := hb
  rcases List.mem_append.1 hb with hb | hb
  ·obtain ⟨u, c, e, hcu, h0⟩ := h.bond b hb
   have huv : u ≠ v := fun e => by
    subst e; rw [List.getElem?_eq_getElem hv] at hcu; have := Option.some.inj hcu; rw [← this, hvl] at h0; omega
   refine ⟨u, c, e, ?_, h0⟩; rw [hc, List.getElem?_set, if_neg fun e => huv e.symm]; exact hcu
  ·simp only [List.mem_singleton] at hb
   subst hb; exact ⟨v, _, rfl, by rw [hc, List.getElem?_set, if_pos rfl, if_pos hv], by simp⟩
 ·show ((S.bonds ++ [((v : Int), topB S.bonds (max v t))]).map (·.1)).Nodup
  rw [List.map_append]; refine List.nodup_append.2 ⟨h.nodup, by simp, fun a ha b hb e => ?_⟩; simp only [List.map_cons, List.map_nil, List.mem_singleton] at hb; obtain ⟨p, hp, rfl⟩ := List.mem_map.1 ha; obtain ⟨u, c, e1, hcu, h0⟩ := h.bond p hp; have : u = v := by rw [e1, hb] at e; omega
  subst this; rw [List.getElem?_eq_getElem hv] at hcu; have := Option.some.inj hcu; rw [← this, hvl] at h0; omega
mutual
def VarsIn (Q : Int → Prop) : Tm → Prop
 | .mk k n _ a => (k = 1 → Q n) ∧ VarsInL Q a
def VarsInL (Q : Int → Prop) : List Tm → Prop
 | [] => True
 | t :: l => VarsIn Q t ∧ VarsInL Q l
end
theorem may_args {t : Tm} (h : mayT t = true) : ∀ x ∈ t.args, mayT x = true := fun x hx => may_arg h hx
theorem may_leaf {t : Tm} (h : mayT t = true) (h1 : t.k ≠ 1) (h4 : t.k ≠ 4) : t.args = [] := by
 obtain ⟨k, n, s, a⟩ := t; simp only [Tm.k] at h1 h4; have hk := may_kind h; simp only [Tm.k] at hk; simp only [mayT, Bool.and_eq_true, mayB] at h; simp only [Tm.args]; rcases hk with rfl | rfl | rfl | rfl
 ·exact absurd rfl h1
 ·simp at h; exact h.1.2
 ·simp at h; exact h.1.2.2
 ·exact absurd rfl h4
theorem may_len {t : Tm} (h : mayT t = true) : t.args.length ≤ 255 := by
 rcases may_kind h with k | k | k | k
 ·rw [may_var h k]; simp
 ·rw [may_leaf h (by omega) (by omega)]; simp
 ·rw [may_leaf h (by omega) (by omega)]; simp
 ·obtain ⟨k', n, s, a⟩ := t
  simp only [Tm.k] at k; subst k; simp only [mayT, Bool.and_eq_true, mayB] at h
  simp at h
  simp only [Tm.args]; omega
mutual
theorem cnt_told {told : Int → Option Int} {N : Nat} : ∀ (t : Tm) (c : Nat) (F : List (Int × Int)), mayT t = true → (cntT told N c F t).1 = true → VarsIn (fun n => ∀ a, told n = some a → 0 ≤ a ∧ a < N) t
 | .mk k n s a, c, F, hm, h => by
   unfold VarsIn
   by_cases k1 : k = 1
   ·rw [cntT_var (t := .mk k n s a) k1] at h
    have ha : a = [] := may_var hm k1; subst ha; refine ⟨fun _ b hb => ?_, trivial⟩; simp only [Tm.n] at h; rw [hb] at h
    simpa using h
   ·rw [cntT_not (t := .mk k n s a) k1] at h
    exact ⟨fun e => absurd e k1, cnt_toldL a (c + 1) F (may_args hm) h⟩
theorem cnt_toldL {told : Int → Option Int} {N : Nat} : ∀ (l : List Tm) (c : Nat) (F : List (Int × Int)), (∀ x ∈ l, mayT x = true) → (cntL told N c F l).1 = true → VarsInL (fun n => ∀ a, told n = some a → 0 ≤ a ∧ a < N) l
 | [], c, F, hm, h => trivial
 | t :: l, c, F, hm, h => by
   unfold VarsInL
   by_cases hx : (cntT told N c F t).1 = true
   ·rw [cntL_pos hx] at h
    exact ⟨cnt_told t c F (hm t (by simp)) hx, cnt_toldL l _ _ (fun x hx => hm x (List.mem_cons_of_mem _ hx)) h⟩
   ·rw [cntL_neg hx] at h
    exact absurd h hx
end
theorem mget_some {l : List (Int × Int)} {n v : Int} (h : mget l n = some v) : (n, v) ∈ l := by
 induction l with
 | nil => simp [mget] at h
 | cons p l ih =>
   simp only [mget] at h
   split at h
   ·rename_i e
    obtain rfl := Option.some.inj h; rw [e]; simp
   ·exact List.mem_cons_of_mem _ (ih h)
theorem mget_keys {F G : List (Int × Int)} (h : F.map (·.1) = G.map (·.1)) (n : Int) : mget F n = none ↔ mget G n = none := by
 rw [mget_none, mget_none]
 have e : ∀ L : List (Int × Int), (∀ p ∈ L, p.1 ≠ n) ↔ n ∉ L.map (·.1) := fun L => by
  simp only [List.mem_map, not_exists, not_and]
 rw [e, e, h]
mutual
theorem cnt_put {told : Int → Option Int} {N : Nat} (T0 : Int) : ∀ (t : Tm) (c b : Nat) (F G : List (Int × Int)), mayT t = true → F.map (·.1) = G.map (·.1) → (cntT told N c F t).1 = true →
 (cntT told N c F t).2.1 = c + (putT told T0 b G t).2.1.length ∧ (cntT told N c F t).2.2.map (·.1) = (putT told T0 b G t).2.2.map (·.1)
 | .mk k n s a, c, b, F, G, hm, hk, h => by
   by_cases k1 : k = 1
   ·rw [cntT_var (t := .mk k n s a) k1, putT_var (t := .mk k n s a) k1]
    simp only [Tm.n]; cases h1 : told n with
    | some x => exact ⟨rfl, hk⟩
    | none =>
      cases h2 : mget F n with
      | some x =>
        cases h3 : mget G n with
        | some y => exact ⟨rfl, hk⟩
        | none => rw [(mget_keys hk n).2 h3] at h2; cases h2
      | none =>
        rw [(mget_keys hk n).1 h2]; exact ⟨rfl, by simp [hk]⟩
   ·rw [cntT_not (t := .mk k n s a) k1] at h ⊢
    by_cases k4 : k = 4
    ·rw [putT_comp (t := .mk k n s a) k4]
     obtain ⟨e1, e2⟩ := cnt_putL T0 a (c + 1) (b + 1) F G (may_args hm) hk h; refine ⟨?_, e2⟩; simp only [Tm.args, List.length_cons]; rw [e1]; omega
    ·rw [putT_leaf (t := .mk k n s a) k1 k4]
     have ha : a = [] := may_leaf hm k1 k4; subst ha; simp only [Tm.args]; rw [cntL_nil]; exact ⟨rfl, hk⟩
theorem cnt_putL {told : Int → Option Int} {N : Nat} (T0 : Int) : ∀ (l : List Tm) (c b : Nat) (F G : List (Int × Int)), (∀ x ∈ l, mayT x = true) → F.map (·.1) = G.map (·.1) → (cntL told N c F l).1 = true →
 (cntL told N c F l).2.1 = c + (putL told T0 b G l).2.1.length ∧ (cntL told N c F l).2.2.map (·.1) = (putL told T0 b G l).2.2.map (·.1)
 | [], c, b, F, G, hm, hk, h => by rw [cntL_nil]; simpa [putL] using hk
 | t :: l, c, b, F, G, hm, hk, h => by
   by_cases hx : (cntT told N c F t).1 = true
   ·rw [cntL_pos hx] at h ⊢
    obtain ⟨e1, e2⟩ := cnt_put T0 t c b F G (hm t (by simp)) hk hx; obtain ⟨e3, e4⟩ := cnt_putL T0 l _ (b + (putT told T0 b G t).2.1.length) _ (putT told T0 b G t).2.2 (fun x hx => hm x (List.mem_cons_of_mem _ hx)) e2 h; simp only [putL, List.length_append]; exact ⟨by omega, e4⟩
   ·rw [cntL_neg hx] at h
    exact absurd h hx
end
def FOk (b : Nat) (F : List (Int × Int)) : Prop := ∀ p ∈ F, 0 ≤ p.2 ∧ p.2 < b
mutual
theorem putT_ok {told : Int → Option Int} {T0 : Int} {b0 : Nat} : ∀ (t : Tm) (b : Nat) (F : List (Int × Int)), mayT t = true → VarsIn (fun n => ∀ a, told n = some a → 0 ≤ a ∧ a < b0) t → b0 ≤ b → FOk b F →
 (0 ≤ (putT told T0 b F t).1 ∧ (putT told T0 b F t).1 < ((b + (putT told T0 b F t).2.1.length : Nat) : Int)) ∧ (∀ c ∈ (putT told T0 b F t).2.1, CellOk (b + (putT told T0 b F t).2.1.length) c ∧ c.lk = -1) ∧ FOk (b + (putT told T0 b F t).2.1.length) (putT told T0 b F t).2.2
 | .mk k n s a, b, F, hm, hv, hb, hF => by
   unfold VarsIn at hv
   by_cases k1 : k = 1
   ·rw [putT_var (t := .mk k n s a) k1]
    simp only [Tm.n]; cases h1 : told n with
    | some x =>
      have := hv.1 k1 x h1; exact ⟨by simp; omega, by simp, by simpa using hF⟩
    | none =>
      cases h2 : mget F n with
      | some x =>
        have := hF _ (mget_some h2); exact ⟨by simpa using this, by simp, by simpa using hF⟩
      | none =>
        refine ⟨by simp; omega, fun c hc => ?_, fun p hp => ?_⟩
        ·simp only [List.mem_singleton] at hc
         subst hc; exact ⟨⟨by simp, by simp, .inl rfl, fun _ => rfl⟩, rfl⟩
        ·rcases List.mem_append.1 hp with hp | hp
         ·have := hF p hp; simp; omega
         ·simp only [List.mem_singleton] at hp; subst hp; simp; omega
   ·by_cases k4 : k = 4
    ·rw [putT_comp (t := .mk k n s a) k4]
     obtain ⟨h1, h2, h3⟩ := putL_ok (told := told) (T0 := T0) a (b + 1) F (may_args hm) hv.2 (by omega) (fun p hp => by have := hF p hp; omega); have hl := putL_len1 told T0 a (b + 1) F; have hl2 : a.length ≤ 255 := may_len hm; have e : b + ((putL told T0 (b + 1) F a).2.1.length + 1) = b + 1 + (putL told T0 (b + 1) F a).2.1.length := by omega
     simp only [List.length_cons, Tm.args, Tm.s]; rw [e]; refine ⟨by omega, fun c hc => ?_, h3⟩; rcases List.mem_cons.1 hc with rfl | hc
     ·exact ⟨⟨by show (putL told T0 (b + 1) F a).1.length ≤ 255; omega, h1, .inl rfl, fun e => absurd (show (4 : Int) = 1 from e) (by decide)⟩, rfl⟩
     ·exact h2 c hc
    ·rw [putT_leaf (t := .mk k n s a) k1 k4]
     refine ⟨by simp; omega, fun c hc => ?_, fun p hp => by have := hF p hp; simp; omega⟩; simp only [List.mem_singleton] at hc; subst hc; exact ⟨⟨by simp, by simp, .inl rfl, fun _ => rfl⟩, rfl⟩
theorem putL_ok {told : Int → Option Int} {T0 : Int} {b0 : Nat} : ∀ (l : List Tm) (b : Nat) (F : List (Int × Int)), (∀ x ∈ l, mayT x = true) → VarsInL (fun n => ∀ a, told n = some a → 0 ≤ a ∧ a < b0) l → b0 ≤ b → FOk b F →
 (∀ a ∈ (putL told T0 b F l).1, 0 ≤ a ∧ a < ((b + (putL told T0 b F l).2.1.length : Nat) : Int)) ∧ (∀ c ∈ (putL told T0 b F l).2.1, CellOk (b + (putL told T0 b F l).2.1.length) c ∧ c.lk = -1) ∧ FOk (b + (putL told T0 b F l).2.1.length) (putL told T0 b F l).2.2
 | [], b, F, hm, hv, hb, hF => by simpa [putL] using hF
 | t :: l, b, F, hm, hv, hb, hF => by
   unfold VarsInL at hv; obtain ⟨h1, h2, h3⟩ := putT_ok (told := told) (T0 := T0) t b F (hm t (by simp)) hv.1 hb hF; obtain ⟨g1, g2, g3⟩ := putL_ok (told := told) (T0 := T0) l (b + (putT told T0 b F t).2.1.length) (putT told T0 b F t).2.2 (fun x hx => hm x (List.mem_cons_of_mem _ hx)) hv.2 (by omega) h3; simp only [putL, List.length_append]; have e : b + ((putT told T0 b F t).2.1.length + (putL told T0 (b + (putT told T0 b F t).2.1.length) (putT told T0 b F t).2.2 l).2.1.length) = b + (putT told T0 b F t).2.1.length + (putL told T0 (b + (putT told T0 b F t).2.1.length) (putT told T0 b F t).2.2 l).2.1.length := by omega
   rw [e]; refine ⟨fun a ha => ?_, fun c hc => ?_, g3⟩
   ·rcases List.mem_cons.1 ha with rfl | ha
    ·omega
    ·exact g1 a ha
   ·rcases List.mem_append.1 hc with hc | hc
    ·exact ⟨(h2 c hc).1.mono (by omega), (h2 c hc).2⟩
    ·exact g2 c hc
end
theorem fixTop_mem : ∀ {T : Int} {l : List SCell} {c : SCell}, c ∈ fixTop T l → ∃ d ∈ l, c.k = d.k ∧ c.n = d.n ∧ c.s = d.s ∧ c.args = d.args ∧ c.lk = d.lk
 | T, [], c, h => by simp [fixTop] at h
 | T, d :: l, c, h => by
   simp only [fixTop] at h; rcases List.mem_cons.1 h with rfl | h
   ·exact ⟨d, by simp, rfl, rfl, rfl, rfl, rfl⟩
   ·obtain ⟨e, he, hh⟩ := fixTop_mem h
    exact ⟨e, List.mem_cons_of_mem _ he, hh⟩
theorem CellOk.top {n : Nat} {c d : SCell} (h : CellOk n d) (e : c.k = d.k ∧ c.n = d.n ∧ c.s = d.s ∧ c.args = d.args ∧ c.lk = d.lk) : CellOk n c := by
 obtain ⟨e1, e2, e3, e4, e5⟩ := e; exact ⟨by rw [e4]; exact h.len, by rw [e4]; exact h.args, by rw [e5, e1]; exact h.lk, by rw [e1, e4]; exact h.var⟩
structure MayPut (S : Sto) (M : List (Int × Int)) (t : Tm) : Prop where
 chk : checkT t = 0
 cnt : (cntT (fun n => mget M n) S.cells.length 0 [] t).1 = true
 fit : ((cntT (fun n => mget M n) S.cells.length 0 [] t).2.1 : Int) ≤ S.room - S.cells.length
theorem MayPut.len {S : Sto} {M : List (Int × Int)} {t : Tm} (h : MayPut S M t) : (((putR S M t).2.1.length : Nat) : Int) ≤ S.room - S.cells.length := by
 have := (cnt_put (lastTop S.cells) t 0 S.cells.length [] [] (check_may h.chk) rfl h.cnt).1; have h2 := h.fit; unfold putR; omega
theorem MayPut.ok {S : Sto} {M : List (Int × Int)} {t : Tm} (h : MayPut S M t) : (0 ≤ (putR S M t).1 ∧ (putR S M t).1 < ((S.cells.length + (putR S M t).2.1.length : Nat) : Int)) ∧ (∀ c ∈ (putR S M t).2.1, CellOk (S.cells.length + (putR S M t).2.1.length) c ∧ c.lk = -1) ∧ FOk (S.cells.length + (putR S M t).2.1.length) (putR S M t).2.2 :=
 putT_ok t S.cells.length [] (check_may h.chk) (cnt_told t 0 [] (check_may h.chk) h.cnt) (Nat.le_refl _) (by intro p hp; simp at hp)
theorem Inv.put {S : Sto} (hI : Inv S) {M : List (Int × Int)} {t : Tm} (h : MayPut S M t) : Inv (putS S M t) := by
 have hl := h.len; have ho := h.ok; unfold putS; refine hI.plus _ (fun c hc => ?_) (by rw [fixTop_len]; omega); rw [fixTop_len]; obtain ⟨d, hd, he⟩ := fixTop_mem hc; have := ho.2.1 d hd; exact ⟨this.1.top he, by rw [he.2.2.2.2]; exact this.2⟩
theorem putS_len (S : Sto) (M : List (Int × Int)) (t : Tm) : (putS S M t).cells.length = S.cells.length + (putR S M t).2.1.length := by simp [putS, plusS, fixTop_len]
mutual
def subT (σ : Int → Tm) : Tm → Tm
 | .mk k n s a => if k = 1 then σ n else .mk k n s (subL σ a)
def subL (σ : Int → Tm) : List Tm → List Tm
 | [] => []
 | t :: l => subT σ t :: subL σ l
end
mutual
theorem subT_size {σ : Int → Tm} (h : ∀ n, (σ n).size = 1) : ∀ t : Tm, (subT σ t).size ≤ t.size
 | .mk k n s a => by
   simp only [subT]
   split
   ·rw [h]; exact size_pos _
   ·have := subL_size h a; simp only [Tm.size]; omega
theorem subL_size {σ : Int → Tm} (h : ∀ n, (σ n).size = 1) : ∀ l : List Tm, sizeL (subL σ l) ≤ sizeL l
 | [] => by simp [subL]
 | t :: l => by have := subT_size h t; have := subL_size h l; simp only [subL, sizeL]; omega
end
def CAgr (c d : SCell) : Prop := c.k = d.k ∧ c.n = d.n ∧ c.s = d.s ∧ c.args = d.args ∧ c.lk = d.lk
def AgreeAt (S : Sto) (b : Nat) (l : List SCell) : Prop := ∀ (i : Nat) (d : SCell), l[i]? = some d → ∃ c, S.cells[b + i]? = some c ∧ CAgr c d
theorem AgreeAt.head {S : Sto} {b : Nat} {d : SCell} {l : List SCell} (h : AgreeAt S b (d :: l)) : ∃ c, S.cells[b]? = some c ∧ CAgr c d := h 0 d rfl
theorem AgreeAt.tail {S : Sto} {b : Nat} {d : SCell} {l : List SCell} (h : AgreeAt S b (d :: l)) : AgreeAt S (b + 1) l := fun i e he => by
 have := h (i + 1) e (by simpa using he)
 rwa [show b + (i + 1) = b + 1 + i by omega] at this
theorem AgreeAt.left {S : Sto} {b : Nat} {l m : List SCell} (h : AgreeAt S b (l ++ m)) : AgreeAt S b l := fun i e he =>
 h i e (by rw [List.getElem?_append_left (List.getElem?_eq_some_iff.1 he).1]; exact he)
theorem AgreeAt.right {S : Sto} {b : Nat} {l m : List SCell} (h : AgreeAt S b (l ++ m)) : AgreeAt S (b + l.length) m := fun i e he => by
 have := h (l.length + i) e (by rw [List.getElem?_append_right (by omega)]; simpa using he)
 rwa [show b + (l.length + i) = b + l.length + i by omega] at this
theorem mget_snoc {n b : Int} : ∀ {F : List (Int × Int)} {m v : Int}, mget F m = some v → mget (F ++ [(n, b)]) m = some v
 | [], m, v, h => by simp [mget] at h
 | p :: F, m, v, h => by
   simp only [List.cons_append, mget] at h ⊢
   split
   ·rename_i e; rw [if_pos e] at h; exact h
   ·rename_i e; rw [if_neg e] at h; exact mget_snoc h
theorem mget_last {n b : Int} : ∀ {F : List (Int × Int)}, mget F n = none → mget (F ++ [(n, b)]) n = some b
 | [], h => by simp [mget]
 | p :: F, h => by
   simp only [List.cons_append, mget] at h ⊢
   split
   ·rename_i e; rw [if_pos e] at h; cases h
   ·rename_i e; rw [if_neg e] at h; exact mget_last h
mutual
theorem put_ext {told : Int → Option Int} {T0 : Int} : ∀ (t : Tm) (b : Nat) (F : List (Int × Int)) (m v : Int), mget F m = some v → mget (putT told T0 b F t).2.2 m = some v
 | .mk k n s a, b, F, m, v, h => by
   by_cases k1 : k = 1
   ·rw [putT_var (t := .mk k n s a) k1]
    simp only [Tm.n]; cases told n with
    | some x => exact h
    | none =>
      cases h2 : mget F n with
      | some x => exact h
      | none => exact mget_snoc h
   ·by_cases k4 : k = 4
    ·rw [putT_comp (t := .mk k n s a) k4]
     exact put_extL a (b + 1) F m v h
    ·rw [putT_leaf (t := .mk k n s a) k1 k4]
     exact h
theorem put_extL {told : Int → Option Int} {T0 : Int} : ∀ (l : List Tm) (b : Nat) (F : List (Int × Int)) (m v : Int), mget F m = some v → mget (putL told T0 b F l).2.2 m = some v
 | [], b, F, m, v, h => by simpa [putL] using h
 | t :: l, b, F, m, v, h => by
   simp only [putL]; exact put_extL l _ _ m v (put_ext t b F m v h)
end
mutual
theorem put_new {told : Int → Option Int} {T0 : Int} : ∀ (t : Tm) (b : Nat) (F : List (Int × Int)), ∀ p ∈ (putT told T0 b F t).2.2, p ∈ F ∨ ∃ (i : Nat) (d : SCell), (putT told T0 b F t).2.1[i]? = some d ∧ p.2 = ((b + i : Nat) : Int) ∧ d.k = 1 ∧ d.lk = -1 ∧ d.args = []
 | .mk k n s a, b, F => by
   by_cases k1 : k = 1
   ·rw [putT_var (t := .mk k n s a) k1]
    simp only [Tm.n]; cases told n with
    | some x => exact fun p hp => .inl hp
    | none =>
      cases h2 : mget F n with
      | some x => exact fun p hp => .inl hp
      | none =>
        intro p hp; rcases List.mem_append.1 hp with hp | hp
        ·exact .inl hp
        ·simp only [List.mem_singleton] at hp
         subst hp; exact .inr ⟨0, _, rfl, rfl, rfl, rfl, rfl⟩
   ·by_cases k4 : k = 4
    ·rw [putT_comp (t := .mk k n s a) k4]
     intro p hp; rcases put_newL a (b + 1) F p hp with h | ⟨i, d, h1, h2, h3⟩
     ·exact .inl h
     ·exact .inr ⟨i + 1, d, by simpa [Tm.args] using h1, by rw [h2]; congr 1; omega, h3⟩
    ·rw [putT_leaf (t := .mk k n s a) k1 k4]
     exact fun p hp => .inl hp
theorem put_newL {told : Int → Option Int} {T0 : Int} : ∀ (l : List Tm) (b : Nat) (F : List (Int × Int)), ∀ p ∈ (putL told T0 b F l).2.2, p ∈ F ∨ ∃ (i : Nat) (d : SCell), (putL told T0 b F l).2.1[i]? = some d ∧ p.2 = ((b + i : Nat) : Int) ∧ d.k = 1 ∧ d.lk = -1 ∧ d.args = []
 | [], b, F => by simp only [putL]; exact fun p hp => .inl hp
 | t :: l, b, F => by
   simp only [putL]; intro p hp; rcases put_newL l _ _ p hp with h | ⟨i, d, h1, h2, h3⟩
   ·rcases put_new t b F p h with h | ⟨i, d, h1, h2⟩
    ·exact .inl h
    ·exact .inr ⟨i, d, by rw [List.getElem?_append_left (List.getElem?_eq_some_iff.1 h1).1]; exact h1, h2⟩
   ·exact .inr ⟨(putT told T0 b F t).2.1.length + i, d, by rw [List.getElem?_append_right (by omega)]; simpa using h1, by rw [h2]; congr 1; omega, h3⟩
end
theorem may_n0 {t : Tm} (h : mayT t = true) (k : t.k = 4) : t.n = 0 := by
 obtain ⟨k', n, s, a⟩ := t; simp only [Tm.k] at k; subst k; simp only [mayT, Bool.and_eq_true, mayB] at h
 simp at h
 simp only [Tm.n]; omega
mutual
theorem put_tr {S : Sto} {told : Int → Option Int} {T0 : Int} {σ : Int → Tm} {G : List (Int × Int)} (hT : ∀ n a, told n = some a → Tr S (σ n) a.toNat) (hN : ∀ n v, told n = none → mget G n = some v → Tr S (σ n) v.toNat) :
 ∀ (t : Tm) (b : Nat) (F : List (Int × Int)), mayT t = true → AgreeAt S b (putT told T0 b F t).2.1 → (∀ n v, mget (putT told T0 b F t).2.2 n = some v → mget G n = some v) → Tr S (subT σ t) (putT told T0 b F t).1.toNat
 | .mk k n s a, b, F, hm, hA, hG => by
   by_cases k1 : k = 1
   ·simp only [subT, if_pos k1]
    rw [putT_var (t := .mk k n s a) k1] at hG ⊢; simp only [Tm.n] at hG ⊢; cases h1 : told n with
    | some x => exact hT n x h1
    | none =>
      rw [h1] at hG; cases h2 : mget F n with
      | some x =>
        rw [h2] at hG; exact hN n x h1 (hG n x h2)
      | none =>
        rw [h2] at hG; exact hN n b h1 (hG n b (mget_last h2))
   ·simp only [subT, if_neg k1]
    by_cases k4 : k = 4
    ·rw [putT_comp (t := .mk k n s a) k4] at hA hG ⊢
     obtain ⟨c, hc, e1, e2, e3, e4, e5⟩ := hA.head; have hn : n = 0 := may_n0 hm k4; subst hn; have ef : fol S b = b := fol_root hc e5; unfold Tr; simp only [Int.toNat_natCast]; rw [ef]; refine ⟨c, hc, ?_, ?_⟩
     ·unfold shellC
      rw [if_neg (by rw [e1]; show ¬ (4 : Int) = 1; decide), e1, e2, e3, k4]; rfl
     ·rw [e4]
      exact put_trL hT hN a (b + 1) F (may_args hm) hA.tail hG
    ·rw [putT_leaf (t := .mk k n s a) k1 k4] at hA hG ⊢
     obtain ⟨c, hc, e1, e2, e3, e4, e5⟩ := hA.head; have ha : a = [] := may_leaf hm k1 k4; subst ha; have ef : fol S b = b := fol_root hc e5; simp only [subL]; unfold Tr; simp only [Int.toNat_natCast]; rw [ef]; refine ⟨c, hc, ?_, ?_⟩
     ·unfold shellC
      rw [if_neg (by rw [e1]; exact k1), e1, e2, e3]; rfl
     ·rw [e4]
      exact trivial
theorem put_trL {S : Sto} {told : Int → Option Int} {T0 : Int} {σ : Int → Tm} {G : List (Int × Int)} (hT : ∀ n a, told n = some a → Tr S (σ n) a.toNat) (hN : ∀ n v, told n = none → mget G n = some v → Tr S (σ n) v.toNat) :
 ∀ (l : List Tm) (b : Nat) (F : List (Int × Int)), (∀ x ∈ l, mayT x = true) → AgreeAt S b (putL told T0 b F l).2.1 → (∀ n v, mget (putL told T0 b F l).2.2 n = some v → mget G n = some v) → TrL S (subL σ l) (putL told T0 b F l).1
 | [], b, F, hm, hA, hG => by simp only [putL, subL]; exact trivial
 | t :: l, b, F, hm, hA, hG => by
   simp only [putL] at hA hG; simp only [putL, subL]; refine ⟨put_tr hT hN t b F (hm t (by simp)) hA.left fun n v h => hG n v (put_extL l _ _ n v h), put_trL hT hN l _ _ (fun x hx => hm x (List.mem_cons_of_mem _ hx)) hA.right hG⟩
end
def backT (S : Sto) (t : Tm) : Tm := subT (fun n => .mk 1 ((mget (putR S [] t).2.2 n).getD 0) ⟨#[]⟩ []) t
theorem fixTop_at : ∀ {T : Int} {l : List SCell} {i : Nat} {d : SCell}, l[i]? = some d → ∃ c, (fixTop T l)[i]? = some c ∧ CAgr c d
 | T, [], i, d, h => by simp at h
 | T, x :: l, 0, d, h => by
   simp only [List.getElem?_cons_zero, Option.some.injEq] at h; subst h; exact ⟨_, rfl, rfl, rfl, rfl, rfl, rfl⟩
 | T, x :: l, i + 1, d, h => by
   simp only [List.getElem?_cons_succ] at h; obtain ⟨c, h1, h2⟩ := fixTop_at (T := maxA T x.args) h; exact ⟨c, by simpa [fixTop] using h1, h2⟩
theorem agree_put (S : Sto) (t : Tm) : AgreeAt (putS S [] t) S.cells.length (putR S [] t).2.1 := fun i d h => by
 obtain ⟨c, h1, h2⟩ := fixTop_at (T := lastTop S.cells) h; refine ⟨c, ?_, h2⟩; show (S.cells ++ fixTop (lastTop S.cells) (putR S [] t).2.1)[S.cells.length + i]? = some c; rw [List.getElem?_append_right (by omega)]
 simpa using h1
theorem AgreeAt.plus {S : Sto} {b : Nat} {l m : List SCell} (h : AgreeAt S b l) : AgreeAt (plusS S m) b l := fun i d hd => by
 obtain ⟨c, h1, h2⟩ := h i d hd; refine ⟨c, ?_, h2⟩; show (S.cells ++ m)[b + i]? = some c; rw [List.getElem?_append_left (List.getElem?_eq_some_iff.1 h1).1]; exact h1
theorem get_of_tr {S : Sto} {t : Tm} {x : Nat} (h : Tr S t x) (hs : t.size ≤ 2000) : getG S 2000 x 0 = (t, 0, t.size) := by
 have := getG_tr S t x 2000 0 h (by have := hT_size t; omega) (by omega)
 rwa [Nat.zero_add] at this
theorem put_base (T0 : Int) (b : Nat) (t : Tm) : (putT (fun n => mget [] n) T0 b [] t).1 = b := by
 by_cases k1 : t.k = 1
 ·rw [putT_var k1]; rfl
 ·by_cases k4 : t.k = 4
  ·rw [putT_comp k4]
  ·rw [putT_leaf k1 k4]
theorem put_base' (S : Sto) (t : Tm) : (putR S [] t).1 = S.cells.length := put_base _ _ _
theorem put_some (S : Sto) (t : Tm) : 0 < (putR S [] t).2.1.length := by
 unfold putR
 by_cases k1 : t.k = 1
 ·rw [putT_var k1]; simp [mget]
 ·by_cases k4 : t.k = 4
  ·rw [putT_comp k4]; simp
  ·rw [putT_leaf k1 k4]; simp
mutual
theorem cnt_none {N : Nat} : ∀ (t : Tm) (c : Nat) (F : List (Int × Int)), (cntT (fun n => mget [] n) N c F t).1 = true
 | .mk k n s a, c, F => by
   by_cases k1 : k = 1
   ·rw [cntT_var (t := .mk k n s a) k1]
    simp only [Tm.n, mget]; cases mget F n <;> rfl
   ·rw [cntT_not (t := .mk k n s a) k1]
    exact cnt_noneL a _ F
theorem cnt_noneL {N : Nat} : ∀ (l : List Tm) (c : Nat) (F : List (Int × Int)), (cntL (fun n => mget [] n) N c F l).1 = true
 | [], c, F => by rw [cntL_nil]
 | t :: l, c, F => by
   rw [cntL_pos (cnt_none t c F)]; exact cnt_noneL l _ _
end
theorem may_put0 {S : Sto} {t : Tm} (hc : checkT t = 0) (hf : (S.cells.length : Int) + t.size ≤ S.room) : MayPut S [] t := ⟨hc, cnt_none t 0 [], by have := cntT_le (fun n => mget [] n) S.cells.length t 0 []; omega⟩
theorem maxA_lt {n T : Int} {l : List Int} (h : T < n) (hl : ∀ a ∈ l, a < n) : maxA T l < n := by
 unfold maxA
 induction l generalizing T with
 | nil => exact h
 | cons a l ih =>
   rw [List.foldl_cons]; exact ih (by have := hl a (by simp); omega) fun b hb => hl b (List.mem_cons_of_mem _ hb)
theorem fixTop_lt {n : Int} : ∀ {T : Int} {l : List SCell}, T < n → (∀ c ∈ l, ∀ a ∈ c.args, a < n) → ∀ c ∈ fixTop T l, c.top < n
 | T, [], h, hl, c, hc => by simp [fixTop] at hc
 | T, d :: l, h, hl, c, hc => by
   simp only [fixTop] at hc; have hm := maxA_lt h (hl d (by simp)); rcases List.mem_cons.1 hc with rfl | hc
   ·exact hm
   ·exact fixTop_lt hm (fun e he => hl e (List.mem_cons_of_mem _ he)) c hc
def TopOk (S : Sto) : Prop := ∀ c ∈ S.cells, c.top < S.cells.length
theorem lastTop_lt {l : List SCell} {n : Int} (h : ∀ c ∈ l, c.top < n) (h0 : -1 < n) : lastTop l < n := by
 unfold lastTop; cases hl : l.getLast? with
 | none => exact h0
 | some c => exact h c (List.mem_of_getLast? hl)
theorem TopOk.put {S : Sto} (h : TopOk S) {M : List (Int × Int)} {t : Tm} (hp : MayPut S M t) : TopOk (putS S M t) := by
 have hl := putS_len S M t; intro c hc; rw [hl]; rcases List.mem_append.1 hc with hc | hc
 ·have := h c hc; omega
 ·refine fixTop_lt (lastTop_lt (fun d hd => ?_) (by omega)) (fun d hd a ha => ?_) c hc
  ·have := h d hd; omega
  ·exact ((hp.ok.2.1 d hd).1.args a ha).2
end Go.Proofs.Ytcbijikalfodnaa.Tms
namespace Go.Proofs.Ytcbijikalfodnaa.Tms
open Go Go.RowKit Go.Proofs.Ytcbijikalfodnaa.Reg
def TopOwn (B : Nat) (t : Tm) (S : Nat → Prop) (wr : World) : Prop := ∃ a c, wr.cell? ⟨B, 3, none⟩ = some (.slice a t.args.length c) ∧ (t.args ≠ [] → ∃ g, a = some ⟨g, 0, none⟩ ∧ S g)
def Top (B : Nat) (t : Tm) (S : Nat → Prop) (l : List (Nat × Nat × Tm)) (wr : World) : Prop := l = [(B, 0, t)] ∨ TopOwn B t S wr
theorem Top.pop {B : Nat} {t : Tm} {S : Nat → Prop} {l : List (Nat × Nat × Tm)} {x : Nat × Nat × Tm} {wr : World} (h : Top B t S (l ++ [x]) wr) : x = (B, 0, t) ∨ TopOwn B t S wr := by
 rcases h with h | h
 ·left
  cases l with
  | nil => simpa using h
  | cons y l => simp at h
 ·exact .inr h
end Go.Proofs.Ytcbijikalfodnaa.Tms
namespace Go.Proofs.Ytcbijikalfodnaa.Tms
open Go Go.RowKit Go.Proofs.Ytcbijikalfodnaa.Reg Go.Proofs.Ytcbijikalfodnaa.Rws Go.Proofs.Ytcbijikalfodnaa.Maps
/-! ### The document's example -/
theorem put_nil {S S' : Sto} {D : Nat → Prop} {p : Nat} {t : Tm} {x : Int} {w w' : World} {e : Ending} (h : PutOk S D p none [] t w e w') (hS : putS S [] t = S' ∧ (putR S [] t).1 = x) :
 e = .returned (.tuple #[.int .i64 x, .int .i64 0]) ∧ StoDid w w' D p S' := by
 obtain ⟨he, D', h1, h2, h3, -⟩ := h; rw [hS.2] at he; rw [hS.1] at h1; exact ⟨he, D', h1, ⟨h2.os, h2.tape, h2.output, h2.size, fun b hlt hb => h2.block b hlt fun e => e.elim hb fun e => by cases e⟩, h3⟩
def Own8 (w : World) (B p : Nat) (S : Sto) : Prop := ∃ D, StoAt w D p S ∧ ∀ b, D b → B ≤ b
theorem Own8.did {w0 w w' : World} {B p : Nat} {D : Nat → Prop} {S' : Sto} (hD : ∀ b, D b → B ≤ b) (hb : Below B w0 w) (hB : B ≤ w.heap.size) (h : StoDid w w' D p S') : Own8 w' B p S' ∧ Below B w0 w' := by
 obtain ⟨D', h1, h2, h3⟩ := h; refine ⟨⟨D', h1, fun b hb => ?_⟩, ⟨h2.os.trans hb.os, h2.tape.trans hb.tape, h2.output.trans hb.output, Nat.le_trans hb.size h2.size, fun b hlt => (h2.block b (by omega) fun e => by have := hD b e; omega).trans (hb.block b hlt)⟩⟩; rcases h3 b hb with h | h
 ·exact hD b h
 ·omega
end Go.Proofs.Ytcbijikalfodnaa.Tms
namespace Go.Proofs.Ytcbijikalfodnaa.Tms
open Go Go.RowKit Go.Proofs.Ytcbijikalfodnaa.Reg
mutual
def Tm.ok : Tm → Bool
 | .mk k _ _ a => k != 0 && okL a
def okL : List Tm → Bool
 | [] => true
 | t :: l => t.ok && okL l
end
mutual
theorem mendT_ok : ∀ t : Tm, (mendT t).ok = true
 | .mk k n s a => by
   have h := mendL_ok a; unfold mendT
   repeat' split
   all_goals simp [Tm.ok, okL, atomA, atomT, h]
theorem mendL_ok : ∀ l : List Tm, okL (mendL l) = true
 | [] => by simp [mendL, okL]
 | t :: l => by simp [mendL, okL, mendT_ok t, mendL_ok l]
end
mutual
theorem TmAt.avoid {w : World} {P : Nat → Prop} {g : Nat} {T : TypeId} {fr : Nat × Nat} (hz : w.heap[g]? = some (.cells #[.int .i64 0, .int .i64 0, .string ⟨#[]⟩, .slice none 0 0] T fr)) : ∀ (t : Tm) (b o : Nat), t.ok = true → TmAt w P b o t → b ≠ g ∧ TmAt w (fun x => P x ∧ x ≠ g) b o t
 | .mk k n s a, b, o, hok, h => by
   simp only [Tm.ok, Bool.and_eq_true, bne_iff_ne] at hok; unfold TmAt at h ⊢; obtain ⟨q, c, h0, h1, h2, h3, h4⟩ := h; refine ⟨fun e => ?_, q, c, h0, h1, h2, h3, ArgsFrom.avoid hz a q 0 hok.2 h4⟩; subst e; rw [cell_of_row w b _ _ _ _ hz] at h0
   match o with
   | 0 => simp at h0; exact hok.1 h0.symm
   | 1 => simp at h0; exact hok.1 h0.symm
   | 2 => simp at h0
   | 3 => simp at h0
   | o + 4 => simp at h0
theorem ArgsFrom.avoid {w : World} {P : Nat → Prop} {g : Nat} {T : TypeId} {fr : Nat × Nat} (hz : w.heap[g]? = some (.cells #[.int .i64 0, .int .i64 0, .string ⟨#[]⟩, .slice none 0 0] T fr)) : ∀ (l : List Tm) (q : Option Addr) (j : Nat), okL l = true → ArgsFrom w P q j l → ArgsFrom w (fun x => P x ∧ x ≠ g) q j l
 | [], q, j, _, _ => by unfold ArgsFrom; trivial
 | t :: l, q, j, hok, h => by
   simp only [okL, Bool.and_eq_true] at hok; unfold ArgsFrom at h ⊢; obtain ⟨⟨b, off, e, hp, ht⟩, h2⟩ := h; obtain ⟨hne, ht'⟩ := TmAt.avoid hz t b _ hok.1 ht; exact ⟨⟨b, off, e, ⟨hp, hne⟩, ht'⟩, ArgsFrom.avoid hz l q (j + 1) hok.2 h2⟩
end
theorem IsTm.avoid {w : World} {P : Nat → Prop} {g : Nat} {T : TypeId} {fr : Nat × Nat} (hz : w.heap[g]? = some (.cells #[.int .i64 0, .int .i64 0, .string ⟨#[]⟩, .slice none 0 0] T fr)) {v : Value} {t : Tm} (hok : t.ok = true) (h : IsTm w P v t) : IsTm w (fun x => P x ∧ x ≠ g) v t := by
 obtain ⟨a, c, e, h⟩ := h; obtain ⟨k, n, s, l⟩ := t; simp only [Tm.ok, Bool.and_eq_true] at hok; exact ⟨a, c, e, ArgsFrom.avoid hz _ a 0 hok.2 h⟩
def AnyTm (u : World) (v : Value) (t : Tm) : Prop := ∃ P, IsTm u P v t
theorem AnyTm.below {u u' : World} {v : Value} {t : Tm} (h : AnyTm u v t) (hb : Below u.heap.size u u') : AnyTm u' v t := let ⟨P, h⟩ := h; ⟨P, h.below hb⟩
mutual
theorem TmAt.low {w : World} {P : Nat → Prop} : ∀ (t : Tm) (b o : Nat), TmAt w P b o t → b < w.heap.size ∧ TmAt w (fun x => P x ∧ x < w.heap.size) b o t
 | .mk k n s a, b, o, h => by
   have hlt : b < w.heap.size := by obtain ⟨_, _, _, _, _, _, _, hlt⟩ := h.read; exact hlt
   unfold TmAt at h ⊢; obtain ⟨q, c, h0, h1, h2, h3, h4⟩ := h; exact ⟨hlt, q, c, h0, h1, h2, h3, ArgsFrom.low a q 0 h4⟩
theorem ArgsFrom.low {w : World} {P : Nat → Prop} : ∀ (l : List Tm) (q : Option Addr) (j : Nat), ArgsFrom w P q j l → ArgsFrom w (fun x => P x ∧ x < w.heap.size) q j l
 | [], q, j, _ => by unfold ArgsFrom; trivial
 | t :: l, q, j, h => by
   unfold ArgsFrom at h ⊢; obtain ⟨⟨b, off, e, hp, ht⟩, h2⟩ := h; obtain ⟨hlt, ht'⟩ := TmAt.low t b _ ht; exact ⟨⟨b, off, e, ⟨hp, hlt⟩, ht'⟩, ArgsFrom.low l q (j + 1) h2⟩
end
theorem IsTm.low {w : World} {P : Nat → Prop} {v : Value} {t : Tm} (h : IsTm w P v t) : IsTm w (fun x => P x ∧ x < w.heap.size) v t := by
 obtain ⟨a, c, e, h⟩ := h; exact ⟨a, c, e, ArgsFrom.low _ a 0 h⟩
theorem IsSl.low {w : World} {P : Nat → Prop} {v : Value} {l : List Tm} (h : IsSl w P v l) : IsSl w (fun x => P x ∧ x < w.heap.size) v l := by
 obtain ⟨a, c, e, h⟩ := h; exact ⟨a, c, e, ArgsFrom.low _ a 0 h⟩
end Go.Proofs.Ytcbijikalfodnaa.Tms
namespace Go.Proofs.Ytcbijikalfodnaa.Tms
open Go Go.RowKit Go.Proofs.Ytcbijikalfodnaa.Reg Go.Proofs.Ytcbijikalfodnaa.Rws Go.Proofs.Ytcbijikalfodnaa.Maps
def Free (D : Nat → Prop) (w : World) (b : Nat) : Prop := ¬ D b ∧ b < w.heap.size
structure Step (D : Nat → Prop) (w : World) (D' : Nat → Prop) (w' : World) : Prop where
 size : w.heap.size ≤ w'.heap.size
 blk : ∀ b, Free D w b → Free D' w' b ∧ w'.heap[b]? = w.heap[b]?
theorem Step.refl (D : Nat → Prop) (w : World) : Step D w D w := ⟨Nat.le_refl _, fun b h => ⟨h, rfl⟩⟩
theorem Step.trans {D D' D'' : Nat → Prop} {w w' w'' : World} (h : Step D w D' w') (h' : Step D' w' D'' w'') : Step D w D'' w'' := ⟨Nat.le_trans h.size h'.size, fun b hb => ⟨(h'.blk b (h.blk b hb).1).1, (h'.blk b (h.blk b hb).1).2.trans (h.blk b hb).2⟩⟩
structure Law8 (w0 : World) (p : Nat) (S : Sto) (D : Nat → Prop) (w : World) : Prop where
 sto : StoAt w D p S
 own : ∀ b, D b → w0.heap.size ≤ b
 bel : Below w0.heap.size w0 w
section
variable {w0 w w' : World} {p : Nat} {S S' : Sto} {D D' : Nat → Prop}
theorem Law8.dl (h : Law8 w0 p S D w) : ∀ b, D b → b < w.heap.size := h.sto.dl''
theorem Law8.keeps (h : Law8 w0 p S D w) {M : Nat → Prop} (hM : ∀ b, M b → D b ∨ w.heap.size ≤ b) (hk : Keeps w w' M) : Below w0.heap.size w0 w' :=
 ⟨hk.os.trans h.bel.os, hk.tape.trans h.bel.tape, hk.output.trans h.bel.output, Nat.le_trans h.bel.size hk.size, fun b hlt => by
   have := h.bel.size; exact (hk.block b (by omega) fun e => by rcases hM b e with e | e; have := h.own b e; omega; omega).trans (h.bel.block b hlt)⟩
theorem Law8.did (h : Law8 w0 p S D w) (hd : StoDid w w' D p S') : ∃ D', Law8 w0 p S' D' w' ∧ Step D w D' w' := by
 obtain ⟨D', h1, h2, h3⟩ := hd; have hs := h.bel.size; refine ⟨D', ⟨h1, fun b hb => ?_, h.keeps (fun b hb => .inl hb) h2⟩, h2.size, fun b hb => ⟨⟨fun e => ?_, Nat.lt_of_lt_of_le hb.2 h2.size⟩, h2.block b hb.2 hb.1⟩⟩
 ·rcases h3 b hb with e | e
  ·exact h.own b e
  ·omega
 ·rcases h3 b e with e | e
  ·exact hb.1 e
  ·have := hb.2; omega
theorem Law8.kept (h : Law8 w0 p S D w) (h1 : StoAt w' D p S') (h2 : Keeps w w' D) : Law8 w0 p S' D w' ∧ Step D w D w' :=
 ⟨⟨h1, h.own, h.keeps (fun b hb => .inl hb) h2⟩, h2.size, fun b hb => ⟨⟨hb.1, Nat.lt_of_lt_of_le hb.2 h2.size⟩, h2.block b hb.2 hb.1⟩⟩
theorem Law8.below (h : Law8 w0 p S D w) (hb : Below w.heap.size w w') : Law8 w0 p S D w' ∧ Step D w D w' ∧ ∀ b, w.heap.size ≤ b → b < w'.heap.size → Free D w' b :=
 ⟨⟨h.sto.below hb, h.own, h.bel.trans (hb.mono h.bel.size)⟩, ⟨hb.size, fun b hf => ⟨⟨hf.1, Nat.lt_of_lt_of_le hf.2 hb.size⟩, hb.block b hf.2⟩⟩, fun b h1 h2 => ⟨fun e => by have := h.dl b e; omega, h2⟩⟩
theorem Law8.alloc (h : Law8 w0 p S D w) (o : Obj) : Law8 w0 p S D (w.alloc o) ∧ Step D w D (w.alloc o) ∧ Free D (w.alloc o) w.heap.size ∧ (w.alloc o).heap[w.heap.size]? = some o := by
 obtain ⟨h1, h2, h3⟩ := h.below (below_new w o); exact ⟨h1, h2, h3 _ (Nat.le_refl _) (by simp), heap_alloc_new w o⟩
theorem IsTm.step {v : Value} {t : Tm} (h : IsTm w (Free D w) v t) (hs : Step D w D' w') : IsTm w' (Free D' w') v t := h.imp (fun b hb => (hs.blk b hb).1) fun b hb _ => (hs.blk b hb).2
theorem IsSl.step {v : Value} {t : List Tm} (h : IsSl w (Free D w) v t) (hs : Step D w D' w') : IsSl w' (Free D' w') v t := h.imp (fun b hb => (hs.blk b hb).1) fun b hb _ => (hs.blk b hb).2
def RowF (D : Nat → Prop) (w : World) (r : Nat) (o : Obj) : Prop := Free D w r ∧ w.heap[r]? = some o
theorem RowF.step {r : Nat} {o : Obj} (h : RowF D w r o) (hs : Step D w D' w') : RowF D' w' r o := ⟨(hs.blk r h.1).1, (hs.blk r h.1).2.trans h.2⟩
theorem Law8.made (h : Law8 w0 p S D w) (hb : Below w.heap.size w w') {v : Value} {t : Tm} (hi : IsTm w' (fun b => w.heap.size ≤ b) v t) : IsTm w' (Free D w') v t :=
 hi.low.imp (fun b hb' => (h.below hb).2.2 b hb'.1 hb'.2) fun _ _ _ => rfl
/-! ### What each step leaves -/
def LawDid (w0 : World) (p : Nat) (D : Nat → Prop) (w : World) (S' : Sto) (w' : World) : Prop := ∃ D', Law8 w0 p S' D' w' ∧ Step D w D' w'
theorem law_Fresh (h : Law8 w0 p S D w) (hI : Inv S) (hr : (S.cells.length : Int) < S.room) :
 Calls Try.prog 9 #[.pointer (some ⟨p, 0, none⟩)] w fun e w' => e = .returned (.tuple #[.int .i64 S.cells.length, .int .i64 0]) ∧ LawDid w0 p D w (freshS S) w' := by
 refine (sto_Fresh w h.sto (by have := hI.small; omega) hr).mono ?_; rintro e w' ⟨rfl, hd⟩; exact ⟨rfl, h.did hd⟩
open Classical in
noncomputable def bindE (S : Sto) (x y : Int) : Int := if ¬ (0 ≤ x ∧ x < S.cells.length) ∨ ¬ (0 ≤ y ∧ y < S.cells.length) then 2 else if (cellF S x.toNat).k = 1 then 0 else 2
open Classical in
noncomputable def bindW (S : Sto) (x y : Int) : Sto := if ¬ (0 ≤ x ∧ x < S.cells.length) ∨ ¬ (0 ≤ y ∧ y < S.cells.length) then S else if (cellF S x.toNat).k = 1 ∧ fol S x.toNat ≠ fol S y.toNat then bindS S (fol S x.toNat) (fol S y.toNat) else S
theorem law_Undo (h : Law8 w0 p S D w) (hI : Inv S) (m : Int) :
 Calls Try.prog 23 #[.pointer (some ⟨p, 0, none⟩), .int .i64 m] w fun e w' => e = .returned (.tuple #[]) ∧ LawDid w0 p D w (undoS S m) w' := by
 refine (sto_Undo w h.sto hI.bndOk m).mono ?_; rintro e w' ⟨rfl, hs, hk⟩; exact ⟨rfl, D, h.kept hs hk⟩
theorem law_Cut (h : Law8 w0 p S D w) (hI : Inv S) (n : Int) :
 Calls Try.prog 34 #[.pointer (some ⟨p, 0, none⟩), .int .i64 n] w fun e w' => e = .returned (.int .i64 (cutE S n)) ∧ LawDid w0 p D w (cutS S n) w' := by
 refine (sto_Cut w h.sto (by have := hI.small; omega) (by have := hI.small; have := hI.bsmall; omega) n).mono ?_; rintro e w' ⟨rfl, hs, hk⟩; exact ⟨rfl, D, h.kept hs hk⟩
theorem law_Get (h : Law8 w0 p S D w) (hI : Inv S) (x : Nat) {t : Tm} (ht : Tr S t x) (hs : t.size ≤ 2000) (hx : x < S.cells.length) :
 Calls Try.prog 19 #[.pointer (some ⟨p, 0, none⟩), .int .i64 x] w fun e w' => ∃ a c, e = .returned (.tuple #[aggT t a c, .int .i64 0]) ∧ Law8 w0 p S D w' ∧ Step D w D w' ∧ IsTm w' (Free D w') (aggT t a c) t := by
 refine (sto_Get_ok w hI.stoIn h.sto x hx t _ (get_of_tr ht hs)).mono ?_; rintro e w' ⟨a, c, rfl, hi, hb⟩; obtain ⟨h1, h2, h3⟩ := h.below hb; exact ⟨a, c, rfl, h1, h2, h.made hb hi⟩
end
def NoLk (S : Sto) : Prop := ∀ c ∈ S.cells, c.lk = -1
theorem NoLk.put {S : Sto} (h : NoLk S) {M : List (Int × Int)} {t : Tm} (hp : MayPut S M t) : NoLk (putS S M t) := by
 intro c hc; rcases List.mem_append.1 hc with hc | hc
 ·exact h c hc
 ·obtain ⟨d, hd, he⟩ := fixTop_mem hc
  rw [he.2.2.2.2]; exact (hp.ok.2.1 d hd).2
theorem NoLk.fresh {S : Sto} (h : NoLk S) : NoLk (freshS S) := by
 intro c hc; rcases List.mem_append.1 hc with hc | hc
 ·exact h c hc
 ·simp only [List.mem_singleton] at hc
  rw [hc]
theorem NoLk.fol {S : Sto} (h : NoLk S) {x : Nat} (hx : x < S.cells.length) : Tms.fol S x = x := fol_root (List.getElem?_eq_getElem hx) (h _ (List.getElem_mem hx))
def ct0 : Sto := ⟨1000, [], []⟩
def ct1 (t : Tm) : Sto := putS ct0 [] t
def ct2 (t u : Tm) : Sto := putS (ct1 t) [] u
def ct3 (t u : Tm) : Sto := freshS (ct2 t u)
def ct4 (t u : Tm) : Sto := bindS (ct3 t u) (ct2 t u).cells.length 0
structure CutFacts (t u : Tm) : Prop where
 i0 : Inv ct0
 i1 : Inv (ct1 t)
 i2 : Inv (ct2 t u)
 i3 : Inv (ct3 t u)
 i4 : Inv (ct4 t u)
 m1 : MayPut ct0 [] t
 m2 : MayPut (ct1 t) [] u
 n1 : 0 < (ct1 t).cells.length
 n2 : (ct1 t).cells.length < (ct2 t u).cells.length
 n3 : ((ct2 t u).cells.length : Int) < (ct2 t u).room
 t1 : Tr (ct1 t) (backT ct0 t) 0
 t2 : Tr (ct2 t u) (backT ct0 t) 0
 be : bindE (ct3 t u) (ct2 t u).cells.length (0 : Nat) = 0
 bw : bindW (ct3 t u) (ct2 t u).cells.length (0 : Nat) = ct4 t u
 c4 : cutE (ct4 t u) (ct1 t).cells.length = 14
 s4 : cutS (ct4 t u) (ct1 t).cells.length = ct4 t u
 un : undoS (ct4 t u) 0 = ct3 t u
 c3 : cutE (ct3 t u) (ct1 t).cells.length = 0
 s3 : cutS (ct3 t u) (ct1 t).cells.length = ct1 t
mutual
theorem sameT_refl : ∀ t : Tm, sameT t t = true
 | .mk k n s a => by have := sameL_refl a; simp [sameT, this]
theorem sameL_refl : ∀ l : List Tm, sameL l l = true
 | [] => by simp [sameL]
 | t :: l => by have := sameT_refl t; have := sameL_refl l; simp [sameL, *]
end
theorem bind_get {S : Sto} {v t : Nat} (hv : v < S.cells.length) (x : Nat) : (bindS S v t).cells[x]? = if v = x then some { S.cells[v] with lk := (t : Int) } else S.cells[x]? := by
 rw [bindS_cells hv, List.getElem?_set]
 by_cases e : v = x
 ·rw [if_pos e, if_pos e, if_pos hv]
 ·rw [if_neg e, if_neg e]
theorem bind_len {S : Sto} {v t : Nat} (hv : v < S.cells.length) : (bindS S v t).cells.length = S.cells.length := by rw [bindS_cells hv]; simp
theorem bind_at {S : Sto} {v t x : Nat} (hv : v < S.cells.length) (hx : x < S.cells.length) (hne : x ≠ v) (h' : x < (bindS S v t).cells.length) : (bindS S v t).cells[x] = S.cells[x] := by
 have h := bind_get (t := t) hv x; rw [if_neg (Ne.symm hne), List.getElem?_eq_getElem h', List.getElem?_eq_getElem hx] at h; exact Option.some.inj h
theorem ch_bind {S : Sto} {v t : Nat} (hv : v < S.cells.length) (ht : t < S.cells.length) (hvl : (S.cells[v]).lk = -1) (htl : (S.cells[t]).lk = -1) (hne : v ≠ t) :
 ∀ (f x r : Nat), Ch S f x r → if r = v then Ch (bindS S v t) (f + 1) x t else Ch (bindS S v t) f x r
 | 0, x, r, ⟨hx, h1, e⟩ => by
   subst e; have hl := bind_len (t := t) hv; have hx' : r < (bindS S v t).cells.length := by omega
   have ht' : t < (bindS S v t).cells.length := by omega
   split
   ·rename_i e
    subst e; have h := bind_get (t := t) hv r; rw [if_pos rfl, List.getElem?_eq_getElem hx'] at h; exact ⟨hx', t, by rw [Option.some.inj h], ht', by rw [bind_at hv ht (Ne.symm hne) ht', htl]; decide, rfl⟩
   ·rename_i e
    exact ⟨hx', by rw [bind_at hv hx e hx']; exact h1, rfl⟩
 | f + 1, x, r, ⟨hx, y, e, hc⟩ => by
   have hl := bind_len (t := t) hv; have hx' : x < (bindS S v t).cells.length := by omega
   have hxv : x ≠ v := fun h => by subst h; rw [hvl] at e; omega
   have ih := ch_bind hv ht hvl htl hne f y r hc; have e' : (bindS S v t).cells[x].lk = (y : Int) := by rw [bind_at hv hx hxv hx']; exact e
   split
   ·rename_i h
    rw [if_pos h] at ih; exact ⟨hx', y, e', ih⟩
   ·rename_i h
    rw [if_neg h] at ih; exact ⟨hx', y, e', ih⟩
theorem fol_bind {S : Sto} (hI : Inv S) {v t : Nat} (hv : v < S.cells.length) (ht : t < S.cells.length) (hvl : (S.cells[v]).lk = -1) (htl : (S.cells[t]).lk = -1) (hne : v ≠ t) {x : Nat} (hx : x < S.cells.length) :
 fol (bindS S v t) x = if fol S x = v then t else fol S x := by
 obtain ⟨f, hf⟩ := hI.folch hx; have := ch_bind hv ht hvl htl hne f x _ hf
 split
 ·rename_i h
  rw [if_pos h] at this; exact fol_eq this
 ·rename_i h
  rw [if_neg h] at this; exact fol_eq this
theorem Tr.fol {S : Sto} {t : Tm} {x y : Nat} (h : Tr S t x) (e : fol S y = Tms.fol S x) : Tr S t y := by
 obtain ⟨k, n, s, a⟩ := t; unfold Tr at h ⊢; rw [e]; exact h
/-! ### Undoing -/
theorem undoS_bind {S : Sto} {v t : Nat} (hv : v < S.cells.length) (hl : (S.cells[v]).lk = -1) {m : Nat} (hm : m ≤ S.bonds.length) : undoS (bindS S v t) m = undoS S m := by
 unfold undoS; have hb : (bindS S v t).bonds.length = S.bonds.length + 1 := by simp [bindS]
 rw [hb, Int.toNat_natCast, show S.bonds.length + 1 - m = (S.bonds.length - m) + 1 by omega]; show undoN _ (looseS (bindS S v t)) = _; rw [loose_bind hv hl]
theorem undoS_self (S : Sto) : undoS S (S.bonds.length : Nat) = S := by
 unfold undoS; rw [Int.toNat_natCast, Nat.sub_self]; rfl
inductive Since (S : Sto) : Sto → Prop
 | refl : Since S S
 | step {T : Sto} (v t : Nat) (h : Since S T) (hv : v < T.cells.length) (hl : (T.cells[v]).lk = -1) : Since S (bindS T v t)
theorem Since.len {S T : Sto} (h : Since S T) : T.cells.length = S.cells.length ∧ S.bonds.length ≤ T.bonds.length := by
 induction h with
 | refl => exact ⟨rfl, Nat.le_refl _⟩
 | @step T v t h hv hl ih =>
   have e : (bindS T v t).bonds.length = T.bonds.length + 1 := by simp [bindS]
   exact ⟨(bind_len hv).trans ih.1, by omega⟩
theorem Since.undo {S T : Sto} (h : Since S T) : undoS T (S.bonds.length : Nat) = S := by
 induction h with
 | refl => exact undoS_self S
 | step v t h hv hl ih => rw [undoS_bind hv hl h.len.2]; exact ih
theorem Inv.bindW {S : Sto} (h : Inv S) (x y : Int) : Inv (Tms.bindW S x y) ∧ Since S (Tms.bindW S x y) := by
 unfold Tms.bindW
 by_cases hn : ¬ (0 ≤ x ∧ x < S.cells.length) ∨ ¬ (0 ≤ y ∧ y < S.cells.length)
 ·rw [if_pos hn]; exact ⟨h, .refl⟩
 ·rw [if_neg hn]
  have hx : x.toNat < S.cells.length := by omega
  have hy : y.toNat < S.cells.length := by omega
  by_cases hc : (cellF S x.toNat).k = 1 ∧ fol S x.toNat ≠ fol S y.toNat
  ·rw [if_pos hc]
   have hk : (S.cells[fol S x.toNat]'(h.fol_lt hx)).k = 1 := by
    obtain ⟨f, -, g⟩ := h.stoIn.fol hx; obtain ⟨h1, e⟩ := List.getElem?_eq_some_iff.1 g; rw [e]; exact hc.1
   exact ⟨h.bind (h.fol_lt hx) (h.fol_lt hy) (h.fol_free hx) (h.fol_free hy) hk hc.2, .step _ _ .refl (h.fol_lt hx) (h.fol_free hx)⟩
  ·rw [if_neg hc]; exact ⟨h, .refl⟩
theorem Since.trans {S T U : Sto} (h : Since S T) (h' : Since T U) : Since S U := by
 induction h' with
 | refl => exact h
 | step v t _ hv hl ih => exact .step v t ih hv hl
/-! ### New variables -/
theorem fresh_len (S : Sto) : (freshS S).cells.length = S.cells.length + 1 := by simp [freshS, addS]
structure ChainIs (S : Sto) (n m i : Nat) (T : Sto) : Prop where
 inv : Inv T
 since : Since S T
 len : T.cells.length = n + m
 bonds : T.bonds.length = i
 fol : ∀ x, x < n + m → Tms.fol T x = if n ≤ x ∧ x ≤ n + i then n + i else x
 old : ∀ x, x < n → T.cells[x]? = S.cells[x]?
 kind : ∀ j, j < m → ∃ c, T.cells[n + j]? = some c ∧ c.k = 1 ∧ c.args = []
theorem ChainIs.free {S T : Sto} {n m i : Nat} (h : ChainIs S n m i T) {x : Nat} (hx : x < n + m) (hn : x < n ∨ n + i ≤ x) : ∃ h' : x < T.cells.length, (T.cells[x]).lk = -1 := by
 have hx' : x < T.cells.length := by rw [h.len]; exact hx
 refine ⟨hx', ?_⟩
 have e : Tms.fol T x = x := by
  rw [h.fol x hx]
  split
  ·omega
  ·rfl
 have := h.inv.fol_free hx'; simp only [e] at this; exact this
theorem ChainIs.k1 {S T : Sto} {n m i j : Nat} (h : ChainIs S n m i T) (hj : j < m) (h' : n + j < T.cells.length) : (T.cells[n + j]).k = 1 := by
 obtain ⟨c, hc, hk, -⟩ := h.kind j hj; obtain ⟨hq, e⟩ := List.getElem?_eq_some_iff.1 hc; rw [e]; exact hk
def chE (T : Sto) (n m : Nat) : Sto := bindS T (n + (m - 1)) 0
structure EndIs (S T : Sto) (n m : Nat) : Prop where
 be : bindE T (n : Nat) ((0 : Nat) : Int) = 0
 bw : bindW T (n : Nat) ((0 : Nat) : Int) = chE T n m
 inv : Inv (chE T n m)
 len : (chE T n m).cells.length = n + m
 fol : ∀ j, j < m → Tms.fol (chE T n m) (n + j) = 0
 fol0 : Tms.fol (chE T n m) 0 = 0
 old : ∀ x, x < n → (chE T n m).cells[x]? = S.cells[x]?
 undo : undoS (chE T n m) 0 = S
def cntM (S : Sto) (M : List (Int × Int)) (t : Tm) : Bool × Nat × List (Int × Int) := cntT (fun n => mget M n) S.cells.length 0 [] t
def putA (S : Sto) (M : List (Int × Int)) (t : Tm) : Int × Int := if checkT t ≠ 0 then (0, checkT t) else if (cntM S M t).1 = false then (0, 2) else if S.room - S.cells.length < ((cntM S M t).2.1 : Int) then (0, 9) else ((putR S M t).1, 0)
def putW (S : Sto) (M : List (Int × Int)) (t : Tm) : Sto := if checkT t ≠ 0 then S else if (cntM S M t).1 = false then S else if S.room - S.cells.length < ((cntM S M t).2.1 : Int) then S else putS S M t
def putN (S : Sto) (M : List (Int × Int)) (t : Tm) : List (Int × Int) := if checkT t ≠ 0 then [] else if (cntM S M t).1 = false then [] else if S.room - S.cells.length < ((cntM S M t).2.1 : Int) then [] else (putR S M t).2.2
theorem Inv.putW {S : Sto} (h : Inv S) (M : List (Int × Int)) (t : Tm) : Inv (Tms.putW S M t) ∧ (Tms.putW S M t).room = S.room := by
 unfold Tms.putW
 split
 ·exact ⟨h, rfl⟩
 ·split
  ·exact ⟨h, rfl⟩
  ·split
   ·exact ⟨h, rfl⟩
   ·rename_i h1 h2 h3
    have h2' : (cntM S M t).1 = true := by simpa using h2
    exact ⟨h.put ⟨by simpa using h1, h2', by unfold cntM at h3; omega⟩, rfl⟩
structure LawPut (w0 : World) (p : Nat) (D : Nat → Prop) (mb : Nat) (M : List (Int × Int)) (N : List (Int × Int)) (w : World) (S' : Sto) (D' : Nat → Prop) (F : List (Int × Int)) (w' : World) : Prop where
 law : Law8 w0 p S' D' w'
 perm : N.Perm F
 map : IMapB w' mb (M ++ F)
 free : ¬ D' mb
 size : w.heap.size ≤ w'.heap.size
 blk : ∀ b, Free D w b → b ≠ mb → Free D' w' b ∧ w'.heap[b]? = w.heap[b]?
section
variable {w0 w w' : World} {p mb : Nat} {S S' : Sto} {D D' : Nat → Prop} {M : List (Int × Int)}
theorem lawPut_same (h : Law8 w0 p S D w) (hm : IMapB w mb M) (hd : ¬ D mb) (hb : Below w.heap.size w w') : LawPut w0 p D mb M [] w S D [] w' := by
 obtain ⟨h1, h2, -⟩ := h.below hb; exact ⟨h1, List.Perm.refl _, by rw [List.append_nil]; exact hm.below (hb.block _ hm.lt), hd, hb.size, fun b hb _ => h2.blk b hb⟩
theorem law_PutV (h : Law8 w0 p S D w) (hI : Inv S) (hm : IMapB w mb M) (hd : ¬ D mb) (h0 : w0.heap.size ≤ mb) {t : Tm} {v : Value} {P : Nat → Prop} (ht : IsTm w P v t) (hP : ∀ b, P b → ¬ D b) (hs : t.size ≤ 20000) :
 Calls Try.prog 17 #[.pointer (some ⟨p, 0, none⟩), v, .map (some mb)] w fun e w' => e = .returned (.tuple #[.int .i64 (putA S M t).1, .int .i64 (putA S M t).2]) ∧ ∃ D' F, LawPut w0 p D mb M (putN S M t) w (putW S M t) D' F w' := by
 have hd' : ∀ b, Value.map (some mb) = .map (some b) → ¬ D b := fun b e => by simp only [Value.map.injEq, Option.some.injEq] at e; subst e; exact hd
 have hv : VMap w (.map (some mb)) M := .inr ⟨mb, rfl, hm⟩; have hsm := hI.small; unfold putA putW putN
 by_cases h1 : checkT t ≠ 0
 ·simp only [if_pos h1]
  refine (sto_Put_check w h.sto t v (some mb) P M (by omega) ht hv hd' h1).mono ?_; rintro e w' ⟨rfl, hb⟩; exact ⟨rfl, D, [], lawPut_same h hm hd hb⟩
 simp only [if_neg h1]; have h1' : checkT t = 0 := by simpa using h1
 by_cases h2 : (cntM S M t).1 = false
 ·simp only [if_pos h2]
  refine (sto_Put_arg w h.sto t v (some mb) P M (by omega) ht hv hd' h1' h2).mono ?_; rintro e w' ⟨rfl, hb⟩; exact ⟨rfl, D, [], lawPut_same h hm hd hb⟩
 simp only [if_neg h2]; have h2' : (cntM S M t).1 = true := by simpa using h2
 by_cases h3 : S.room - S.cells.length < ((cntM S M t).2.1 : Int)
 ·simp only [if_pos h3]
  refine (sto_Put_full w h.sto t v (some mb) P M (by omega) ht hv hd' (by omega) hI.room0 hI.room h1' h2' h3).mono ?_; rintro e w' ⟨rfl, hb⟩; exact ⟨rfl, D, [], lawPut_same h hm hd hb⟩
 simp only [if_neg h3]; refine (sto_Put_ok w h.sto t v (some mb) P M (by omega) ht hv hd' hP (by omega) hI.room0 hI.room h1' h2' (by unfold cntM at h3; omega)).mono ?_; intro e w' hp; obtain ⟨he, D', hs', hk, hg, hF⟩ := hp; obtain ⟨F, hperm, hmap⟩ := hF mb rfl; have hlt := hm.lt
 have hnd : ∀ b, b < w.heap.size → ¬ D b → ¬ D' b := fun b hb hn e => by
  rcases hg b e with e | e
  ·exact hn e
  ·omega
 have hz := h.bel.size; refine ⟨he, D', F, ⟨hs', fun b hb => ?_, ⟨hk.os.trans h.bel.os, hk.tape.trans h.bel.tape, hk.output.trans h.bel.output, Nat.le_trans hz hk.size, fun b hlt' => ?_⟩⟩, hperm, hmap, hnd mb hlt hd, hk.size, fun b hb hne => ⟨⟨hnd b hb.2 hb.1, Nat.lt_of_lt_of_le hb.2 hk.size⟩, ?_⟩⟩
 ·rcases hg b hb with e | e
  ·exact h.own b e
  ·omega
 ·refine (hk.block b (by omega) fun e => ?_).trans (h.bel.block b hlt')
  rcases e with e | e
  ·have := h.own b e; omega
  ·simp only [Option.some.injEq] at e; omega
 ·refine hk.block b hb.2 fun e => ?_
  rcases e with e | e
  ·exact hb.1 e
  ·simp only [Option.some.injEq] at e; exact hne e.symm
def freshA (S : Sto) : Int × Int := if (S.cells.length : Int) < S.room then ((S.cells.length : Int), 0) else (0, 9)
def freshW (S : Sto) : Sto := if (S.cells.length : Int) < S.room then freshS S else S
theorem Inv.freshW {S : Sto} (h : Inv S) : Inv (Tms.freshW S) ∧ (Tms.freshW S).room = S.room := by
 unfold Tms.freshW
 split
 ·rename_i h1; exact ⟨h.fresh h1, rfl⟩
 ·exact ⟨h, rfl⟩
theorem law_FreshE (h : Law8 w0 p S D w) (hI : Inv S) :
 Calls Try.prog 9 #[.pointer (some ⟨p, 0, none⟩)] w fun e w' => e = .returned (.tuple #[.int .i64 (freshA S).1, .int .i64 (freshA S).2]) ∧ LawDid w0 p D w (freshW S) w' := by
 unfold freshA freshW
 by_cases hr : (S.cells.length : Int) < S.room
 ·simp only [if_pos hr]
  exact law_Fresh h hI hr
 ·simp only [if_neg hr]
  refine (sto_Fresh_full w h.sto (by have := hI.small; omega) (by omega)).mono ?_; rintro e w' ⟨rfl, hb⟩; exact ⟨rfl, D, (h.below hb).1, (h.below hb).2.1⟩
theorem IntSl.step {v : Value} {L : List Int} (h : IntSl w (Free D w) v L) (hs : Step D w D' w') : IntSl w' (Free D' w') v L := h.move (fun b hb _ => (hs.blk b hb).1) fun b hb _ => (hs.blk b hb).2
theorem law_Look (h : Law8 w0 p S D w) (hI : Inv S) (x : Nat) (hx : x < S.cells.length) :
 Calls Try.prog 18 #[.pointer (some ⟨p, 0, none⟩), .int .i64 x] w fun e w' => ∃ v, e = .returned (.tuple #[aggS (shellC (fol S x) (cellF S x)), v]) ∧ Law8 w0 p S D w' ∧ Step D w D w' ∧ IntSl w' (Free D w') v (cellF S x).args := by
 obtain ⟨f, hc, hg⟩ := hI.stoIn.fol hx; refine (sto_Look w h.sto f x _ _ hc hg (by have := hI.small; omega) (by have := (hI.cell _ _ hg).len; omega)).mono ?_; rintro e w' ⟨v, rfl, hv, hb⟩; obtain ⟨h1, h2, h3⟩ := h.below hb; exact ⟨v, rfl, h1, h2, hv.low.move (fun b hb _ => h3 b hb.1 hb.2) fun _ _ _ => rfl⟩
end
def hStep (g : Nat → Option Nat) (st : Option Nat) (a : Int) : Option Nat := st.bind fun m => (g a.toNat).map fun h => max m h
noncomputable def hgtF (S : Sto) : Nat → Nat → Option Nat
 | 0, _ => none
 | f + 1, x => ((cellF S x).args.foldl (hStep (hgtF S f)) (some 0)).map (· + 1)
theorem hfold_none (g : Nat → Option Nat) : ∀ l : List Int, l.foldl (hStep g) none = none
 | [] => rfl
 | a :: l => by rw [List.foldl_cons]; exact hfold_none g l
theorem hfold_take (g : Nat → Option Nat) (l : List Int) (st : Option Nat) (i : Nat) (hi : i < l.length) : (l.take (i + 1)).foldl (hStep g) st = hStep g ((l.take i).foldl (hStep g) st) l[i] := by
 rw [List.take_succ_eq_append_getElem hi, List.foldl_append]; rfl
theorem hfold_stop (g : Nat → Option Nat) (l : List Int) (st : Option Nat) (i : Nat) (h : (l.take i).foldl (hStep g) st = none) : l.foldl (hStep g) st = none := by
 rw [← List.take_append_drop i l, List.foldl_append, h]; exact hfold_none g _
theorem hfold_some {g : Nat → Option Nat} : ∀ {l : List Int} {m h : Nat}, l.foldl (hStep g) (some m) = some h → m ≤ h ∧ ∀ a ∈ l, ∃ k, g a.toNat = some k ∧ k ≤ h
 | [], m, h, e => by simp only [List.foldl_nil, Option.some.injEq] at e; exact ⟨by omega, fun a ha => by cases ha⟩
 | a :: l, m, h, e => by
   rw [List.foldl_cons] at e; cases hg : g a.toNat with
   | none => rw [show hStep g (some m) a = none by simp [hStep, hg], hfold_none] at e; cases e
   | some k =>
     rw [show hStep g (some m) a = some (max m k) by simp [hStep, hg]] at e; obtain ⟨h1, h2⟩ := hfold_some e; refine ⟨by omega, fun b hb => ?_⟩; rcases List.mem_cons.1 hb with rfl | hb
     ·exact ⟨k, hg, by omega⟩
     ·exact h2 b hb
theorem hfold_congr {g g' : Nat → Option Nat} : ∀ {l : List Int} {m h : Nat}, l.foldl (hStep g) (some m) = some h → (∀ a ∈ l, ∀ k, g a.toNat = some k → k ≤ h → g' a.toNat = some k) → l.foldl (hStep g') (some m) = some h
 | [], m, h, e, _ => e
 | a :: l, m, h, e, hc => by
   obtain ⟨k, hk, hkh⟩ := (hfold_some e).2 a (List.mem_cons_self ..); rw [List.foldl_cons, show hStep g (some m) a = some (max m k) by simp [hStep, hk]] at e; rw [List.foldl_cons, show hStep g' (some m) a = some (max m k) by simp [hStep, hc a (List.mem_cons_self ..) k hk hkh]]; exact hfold_congr e fun b hb => hc b (List.mem_cons_of_mem _ hb)
theorem hfold_le {g : Nat → Option Nat} {f : Nat} (hg : ∀ x k, g x = some k → k ≤ f) : ∀ {l : List Int} {m h : Nat}, l.foldl (hStep g) (some m) = some h → m ≤ f → h ≤ f
 | [], m, h, e, hm => by simp only [List.foldl_nil, Option.some.injEq] at e; omega
 | a :: l, m, h, e, hm => by
   rw [List.foldl_cons] at e; cases hk : g a.toNat with
   | none => rw [show hStep g (some m) a = none by simp [hStep, hk], hfold_none] at e; cases e
   | some k =>
     rw [show hStep g (some m) a = some (max m k) by simp [hStep, hk]] at e; exact hfold_le hg e (by have := hg _ _ hk; omega)
theorem hgt_le (S : Sto) : ∀ (f x h : Nat), hgtF S f x = some h → 0 < h ∧ h ≤ f
 | 0, x, h, e => by simp [hgtF] at e
 | f + 1, x, h, e => by
   simp only [hgtF, Option.map_eq_some_iff] at e; obtain ⟨m, hm, rfl⟩ := e; have := hfold_le (fun x k hk => (hgt_le S f x k hk).2) hm (by omega); omega
theorem hgt_at (S : Sto) : ∀ (f x h f' : Nat), hgtF S f x = some h → h ≤ f' → hgtF S f' x = some h
 | 0, x, h, f', e, _ => by simp [hgtF] at e
 | f + 1, x, h, f', e, hf => by
   simp only [hgtF, Option.map_eq_some_iff] at e; obtain ⟨m, hm, rfl⟩ := e; obtain ⟨f'', rfl⟩ : ∃ f'', f' = f'' + 1 := ⟨f' - 1, by omega⟩; simp only [hgtF, Option.map_eq_some_iff]; exact ⟨m, hfold_congr hm fun a _ k hk hkm => hgt_at S f _ k f'' hk (by omega), rfl⟩
theorem cellF_root {S : Sto} (hI : StoIn S) {x : Nat} (hx : x < S.cells.length) : fol S (fol S x) = fol S x ∧ cellF S (fol S x) = cellF S x := by
 obtain ⟨f, hc, -⟩ := hI.fol hx; obtain ⟨h1, h2⟩ := hc.end_; have e : fol S (fol S x) = fol S x := fol_eq (f := 0) ⟨h1, h2, rfl⟩; refine ⟨e, ?_⟩; unfold cellF; rw [e]
theorem hgt_root {S : Sto} (hI : StoIn S) {x : Nat} (hx : x < S.cells.length) (f : Nat) : hgtF S f (fol S x) = hgtF S f x := by
 cases f with
 | zero => rfl
 | succ f => simp only [hgtF, (cellF_root hI hx).2]
def KnOk (S : Sto) (K : List (Int × Int)) : Prop := ∀ (x : Nat) (v : Int), mget K x = some v → ∃ h : Nat, v = h ∧ h ≤ 2000 ∧ hgtF S h x = some h
theorem KnOk.set {S : Sto} {K : List (Int × Int)} (hK : KnOk S K) {x h : Nat} (h2 : h ≤ 2000) (hh : hgtF S h x = some h) : KnOk S (mset (x : Int) (h : Int) K) := by
 intro y v hy
 by_cases e : (y : Int) = (x : Int)
 ·rw [e, mget_mset_same] at hy
  simp only [Option.some.injEq] at hy; obtain rfl : y = x := by omega
  exact ⟨h, hy.symm, h2, hh⟩
 ·rw [mget_mset_other _ _ _ e] at hy
  exact hK y v hy
structure HtAt (S : Sto) (D : Nat → Prop) (gb mb p : Nat) (pn : Int) (K : List (Int × Int)) (w : World) : Prop where
 sto : StoAt w D p S
 row : w.heap[gb]? = some (.cells #[.pointer (some ⟨p, 0, none⟩), .int .i64 pn, .map (some mb)] 110 (0, 0))
 map : IMap w mb K
 ok : KnOk S K
theorem HtAt.lt {S : Sto} {D : Nat → Prop} {gb mb p : Nat} {pn : Int} {K : List (Int × Int)} {w : World} (h : HtAt S D gb mb p pn K w) : gb < w.heap.size ∧ mb < w.heap.size ∧ gb ≠ mb := by
 refine ⟨(Array.getElem?_eq_some_iff.1 h.row).1, h.map.lt, fun e => ?_⟩; obtain ⟨es, c, h1, -⟩ := h.map; have h2 := h.row; rw [e, h1] at h2
 simp at h2
theorem HtAt.keep {S : Sto} {D : Nat → Prop} {gb mb p : Nat} {pn : Int} {K K' : List (Int × Int)} {w w' : World} (h : HtAt S D gb mb p pn K w) (hd : ¬ D mb) (hk : Keeps w w' (fun b => b = mb)) (hm : IMap w' mb K') (hK : KnOk S K') : HtAt S D gb mb p pn K' w' :=
 ⟨h.sto.keep hk.size fun b hlt hb => hk.block b hlt fun e => hd (e ▸ hb), (hk.block gb h.lt.1 h.lt.2.2).trans h.row, hm, hK⟩
def HtPost (S : Sto) (D : Nat → Prop) (gb mb p : Nat) (pn : Int) (r : Option Nat) (w : World) (e : Ending) (w' : World) : Prop :=
 ∃ (v : Int) (K : List (Int × Int)), e = .returned (.tuple #[.int .i64 v, .bool r.isSome]) ∧ (∀ h : Nat, r = some h → v = h) ∧ HtAt S D gb mb p pn K w' ∧ Keeps w w' (fun b => b = mb)
def HtRel (S : Sto) (D : Nat → Prop) (gb mb p : Nat) (pn : Int) (f : Nat) (L : List Int) (w : World) (vm vi : Value) (wr : World) : Prop :=
 ∃ (i m : Nat) (K : List (Int × Int)), i ≤ L.length ∧ vi = .int .i64 i ∧ vm = .int .i64 m ∧ (L.take i).foldl (hStep (hgtF S f)) (some 0) = some m ∧ HtAt S D gb mb p pn K wr ∧ Keeps w wr (fun b => b = mb)
theorem gt_height (S : Sto) (hin : StoIn S) (D : Nat → Prop) (gb mb p : Nat) (pn : Int) (hgd : ¬ D gb) (hmd : ¬ D mb) : ∀ (f x : Nat) (dp : Int) (K : List (Int × Int)) (w : World), x < S.cells.length → dp + f = 2001 → f ≤ 2000 → HtAt S D gb mb p pn K w →
 Calls Try.prog 49 #[.pointer (some ⟨gb, 0, none⟩), .int .i64 x, .int .i64 dp] w (HtPost S D gb mb p pn (hgtF S f x) w) := by
 intro f
 induction f with
 | zero =>
   intro x dp K w hx hdp hf hA; obtain rfl : dp = 2001 := by omega
   have HA := Lib.hid hA; clear hA
   go_enter Try.func49, Try.ntmps49
   go_wp2; go_ret2; exact ⟨0, K, rfl, fun h e => by simp [hgtF] at e, HA.out, Keeps.refl _ _⟩
 | succ f ih =>
   intro x dp K w hx hdp hf hA; have IH := Lib.hid ih; obtain ⟨fc, hch, hcell⟩ := hin.fol hx; obtain ⟨hrt, hrc⟩ := cellF_root hin hx; have hgr := hgt_root hin hx (f + 1); have hdef : hgtF S (f + 1) x = ((cellF S x).args.foldl (hStep (hgtF S f)) (some 0)).map (· + 1) := rfl; have hargs := hin.args _ (List.mem_of_getElem? hcell); have hrl := (List.getElem?_eq_some_iff.1 hcell).1; generalize hR : fol S x = R at *; generalize hC : cellF S x = c at *; obtain ⟨u0, u1, u2⟩ := row3 hA.row; have HA := Lib.hid hA; have HCH := Lib.hid hch; have HCELL := Lib.hid hcell; have HGR := Lib.hid hgr; have HDEF := Lib.hid hdef; have HDP := Lib.hid hdp; have HARG := Lib.hid hargs.2; have hal := hargs.1; have hdp2 : dp ≤ 2000 := by omega
   have hdp1 : 1 ≤ dp := by omega
   have b1 : decide (2000 < dp) = false := by simp; omega
   have hsm := hin.small; clear ih hA hch hcell hrt hrc hgr hdef hdp hargs hR hC
   go_enter Try.func49, Try.ntmps49
   go_wp2_with fail
   refine (sto_fol w HA.out.sto fc x R HCH.out).mono ?_; rintro e3 w3 ⟨rfl, rfl⟩; cases hk : mget K R with
   | some v =>
     obtain ⟨h, rfl, hh2, hh⟩ := HA.out.ok R v hk; have HK := Lib.hid hk; have hh0 := (hgt_le S h R h hh).1; clear hk
     by_cases hle : h ≤ f + 1
     ·have b2 : decide (dp + (h : Int) - 1 ≤ 2000) = true := by have := HDP.out; simp; omega
      have b3 : decide (dp + (h : Int) ≤ 2001) = true := by have := HDP.out; simp; omega
      have hr : hgtF S (f + 1) x = some h := by rw [← HGR.out]; exact hgt_at S h R h (f + 1) hh hle
      have HRR := Lib.hid hr; clear hr hh
      go_wp2_with (with_reducible show wpList _ _ _ (⟨some 29, _, _, _, _, _⟩ :: _) _ _
                   refine wpList_imap_ok rfl 108 (.tmp 27) (.tmp 28) rfl _ _ _ Try.underlying108 Try.underlying3 mb _ rfl HA.out.map R rfl (fun _ => by kernel_rfl) ?_; rw [HK.out]; simp only [Option.getD_some, Option.isSome_some])
      go_ret2; rw [HRR.out]; exact ⟨h, K, by simp [b2, b3], fun h' e => by simp only [Option.some.injEq] at e; rw [e], HA.out, Keeps.refl _ _⟩
     ·have b2 : decide (dp + (h : Int) - 1 ≤ 2000) = false := by have := HDP.out; simp; omega
      have b3 : decide (dp + (h : Int) ≤ 2001) = false := by have := HDP.out; simp; omega
      have hr : hgtF S (f + 1) x = none := by
       cases e : hgtF S (f + 1) x with
       | none => rfl
       | some h' =>
         exfalso
         rw [← HGR.out] at e; have e1 := hgt_at S _ R h' (max h h') e (by omega); have e2 := hgt_at S _ R h (max h h') hh (by omega); rw [e1] at e2; simp only [Option.some.injEq] at e2; have := (hgt_le S _ _ _ e).2; omega
      have HRR := Lib.hid hr; clear hr hh
      go_wp2_with (with_reducible show wpList _ _ _ (⟨some 29, _, _, _, _, _⟩ :: _) _ _
                   refine wpList_imap_ok rfl 108 (.tmp 27) (.tmp 28) rfl _ _ _ Try.underlying108 Try.underlying3 mb _ rfl HA.out.map R rfl (fun _ => by kernel_rfl) ?_; rw [HK.out]; simp only [Option.getD_some, Option.isSome_some])
      go_ret2; rw [HRR.out]; exact ⟨h, K, by simp [b2, b3], fun h' e => (by cases e), HA.out, Keeps.refl _ _⟩
   | none =>
     have HK := Lib.hid hk; clear hk; obtain ⟨gc, cp, bv, A, hrow⟩ := sto_open' HA.out.sto R hrl; obtain ⟨av, -, -, -, d3, -, -, hav⟩ := hrow.cellAt R c HCELL.out; obtain ⟨y0, y1, y2⟩ := row3 hrow.row; have hcap := hrow.own.caps; obtain ⟨aa, ac, rfl, hac1, hac2, hel⟩ := hav; have hcap1 : S.cells.length ≤ cp := hcap.1; have hR0 : (0 : Int) ≤ (R : Int) := by omega
     have hR1 : (R : Int) < (S.cells.length : Int) := by omega
     have hsl : IntSl w (fun b => D b) (.slice aa c.args.length ac) c.args := IntSl.move (P := fun b => A b ∧ gc ≠ b ∧ b < w.heap.size) ⟨aa, ac, rfl, hac1, hac2, hel⟩ (fun b hb _ => hrow.da b hb.1) fun _ _ _ => rfl
     have HSL := Lib.hid hsl; have hst : HtRel S D gb mb p pn f c.args w (.int .i64 ((0 : Nat) : Int)) (.int .i64 ((0 : Nat) : Int)) w := ⟨0, 0, K, by omega, rfl, rfl, rfl, HA.out, Keeps.refl _ _⟩; have HST := Lib.hid hst; clear hrow hcap hel hsl hst; generalize hNN : S.cells.length = NN at *; generalize hAL : c.args.length = nA at *; have HNN := Lib.hid hNN; have HAL := Lib.hid hAL; clear hNN hAL
     go_wp2_with (with_reducible show wpList _ _ _ (⟨some 29, _, _, _, _, _⟩ :: _) _ _
                  refine wpList_imap_ok rfl 108 (.tmp 27) (.tmp 28) rfl _ _ _ Try.underlying108 Try.underlying3 mb _ rfl HA.out.map R rfl (fun _ => by kernel_rfl) ?_; rw [HK.out]; simp only [Option.getD_none, Option.isSome_none])
     clear u0 u1 u2 y0 y1 y2 d3
     go_loopw [10, 51] (fun vm vi wr => HtRel S D gb mb p pn f c.args w vm vi wr) (fun _ vi _ => nA - (intOf vi).toNat)
     case atStart => exact HST.out
     case round =>
      clear HST HK; obtain ⟨i, m, K', hi, rfl, rfl, hfd, hA', hkk⟩ := hrel; rw [HAL.out] at hi; have hmle := hfold_le (fun x k hk => (hgt_le S f x k hk).2) hfd (Nat.zero_le _); have HFD := Lib.hid hfd; have HA' := Lib.hid hA'; have HKK := Lib.hid hkk; obtain ⟨u0, u1, u2⟩ := row3 hA'.row; clear hfd hA' hkk
      by_cases hin2 : i < nA
      ·have hil : i < c.args.length := by have := HAL.out; omega
       have hslr : IntSl wr (fun b => D b) (.slice aa nA ac) c.args := HSL.out.move (fun b hb _ => hb) fun b hb hlt => HKK.out.block b hlt fun e => hmd (e ▸ hb)
       obtain ⟨a', ac', he, -, -, hel⟩ := hslr; simp only [Value.slice.injEq] at he; obtain ⟨rfl, -, -⟩ := he; obtain ⟨be, off, rfl, -, -, hcel⟩ := hel i hil; obtain ⟨an, han⟩ : ∃ an : Nat, c.args[i] = (an : Int) := ⟨c.args[i].toNat, by have := (HARG.out c.args[i] (List.getElem_mem hil)).1; omega⟩; rw [han] at hcel; have hanl : an < NN := by have := (HARG.out c.args[i] (List.getElem_mem hil)).2; omega
       have htk := hfold_take (hgtF S f) c.args (some 0) i hil; rw [HFD.out, han, show hStep (hgtF S f) (some m) ((an : Nat) : Int) = (hgtF S f an).map (fun h => max m h) from rfl] at htk; have HTK := Lib.hid htk; have hih := IH.out an (dp + 1) K' wr hanl (by have := HDP.out; omega) (by omega) HA'.out; have HIH := Lib.hid hih; have hsp := hfold_stop (hgtF S f) c.args (some 0) (i + 1); have HSP := Lib.hid hsp; have hi0 : (0 : Int) ≤ (i : Int) := by omega
       have hi1 : (i : Int) < (nA : Int) := by omega
       have bi : decide ((i : Int) < (nA : Int)) = true := by simp; omega
       have hac3 : nA ≤ ac := hac1; clear hel han htk hih hsp
       go_wp2_with fail
       refine HIH.out.mono ?_; rintro e4 w4 ⟨v, K4, rfl, hv4, hA4, hk4⟩; have HA4 := Lib.hid hA4; have HK4 := Lib.hid (HKK.out.trans hk4 fun b hb => .inl hb); have HV4 := Lib.hid hv4; clear HIH hA4 hk4 hv4 u0 u1 u2 hcel; cases hr : hgtF S f an with
       | none =>
         have hno : hgtF S (f + 1) x = none := by rw [HDEF.out, HSP.out (by rw [HTK.out, hr]; rfl)]; rfl
         have HNO := Lib.hid hno; have HR := Lib.hid hr; clear hr hno; simp only [Option.isSome_none]; go_wp2; go_ret2; rw [HNO.out]; exact ⟨0, K4, rfl, fun h e => (by cases e), HA4.out, HK4.out⟩
       | some h =>
         obtain rfl := HV4.out h hr; have hle := (hgt_le S f an h hr).2; have hnx : (c.args.take (i + 1)).foldl (hStep (hgtF S f)) (some 0) = some (max m h) := by rw [HTK.out, hr]; rfl
         have hrel : HtRel S D gb mb p pn f c.args w (.int .i64 ((max m h : Nat) : Int)) (.int .i64 ((i + 1 : Nat) : Int)) w4 := ⟨i + 1, max m h, K4, by have := HAL.out; omega, rfl, rfl, hnx, HA4.out, HK4.out⟩; have em : max (m : Int) (h : Int) = ((max m h : Nat) : Int) := by omega
         rw [← em] at hrel; have HREL := Lib.hid hrel; have HR := Lib.hid hr; clear hr hnx hrel em HV4; simp only [Option.isSome_some]; go_wp2; go_roundw
         case measure => simp [intOf]; omega
         case rel => exact HREL.out
      ·have bi : decide ((i : Int) < (nA : Int)) = false := by simp; omega
       have hr : hgtF S (f + 1) x = some (m + 1) := by
        have : (c.args.take i) = c.args := List.take_of_length_le (by have := HAL.out; omega); rw [HDEF.out, ← this, HFD.out]; rfl
       have hr1 : hgtF S (m + 1) R = some (m + 1) := by
        have h := hr; rw [← HGR.out] at h; exact hgt_at S _ R (m + 1) (m + 1) h (Nat.le_refl _)
       have HRR := Lib.hid hr; have HR1 := Lib.hid hr1; clear hr hr1
       go_wp2_with (with_reducible show wpList _ _ _ (⟨none, .mapUpdate _ _ _ _, _, _, _, _⟩ :: _) _ _
                    refine wpList_imap_set rfl 108 (.tmp 72) (.tmp 73) (.tmp 75) rfl _ _ _ Try.underlying108 Try.underlying3 mb _ rfl HA'.out.map R rfl ((m : Int) + 1) rfl ?_; intro w5 hm5 hg5; have hk5 : Keeps wr w5 (fun b => b = mb) := ⟨hg5.os, hg5.tape, hg5.output, hg5.size, fun b hlt hb => hg5.block b hlt fun e => hb (by simpa using e)⟩; have HA5 := Lib.hid (HA'.out.keep hmd hk5 hm5 (HA'.out.ok.set (h := m + 1) (by omega) HR1.out)); have HK5 := Lib.hid (HKK.out.trans hk5 fun b hb => .inl hb); clear hm5 hg5 hk5)
       go_ret2; rw [HRR.out]; exact ⟨((m + 1 : Nat) : Int), _, by simp, fun h e => by simp only [Option.some.injEq] at e; omega, HA5.out, HK5.out⟩
noncomputable def getT (S : Sto) (x : Nat) : Tm := if (getG S 2000 x 0).2.1 = 0 then (getG S 2000 x 0).1 else zeroTm
open Classical in
noncomputable def getE (S : Sto) (x : Nat) : Int := if (getG S 2000 x 0).2.1 = 3 ∧ hgtF S 2000 x = none then 4 else (getG S 2000 x 0).2.1
theorem sto_Get_bad {S : Sto} {D : Nat → Prop} {p : Nat} (w : World) (hin : StoIn S) (hS : StoAt w D p S) (x : Nat) (hx : x < S.cells.length) (hbad : (getG S 2000 x 0).2.1 ≠ 0) :
 Calls Try.prog 19 #[.pointer (some ⟨p, 0, none⟩), .int .i64 x] w fun e w' => e = .returned (.tuple #[aggT zeroTm none 0, .int .i64 (getE S x)]) ∧ Below w.heap.size w w' := by
 have hb0 := below_new w (.cells #[.int .i64 0, .int .i64 0, .string ⟨#[]⟩, .slice none 0 0] 49 (0, 0)); have hn0 := heap_alloc_new w (.cells #[.int .i64 0, .int .i64 0, .string ⟨#[]⟩, .slice none 0 0] 49 (0, 0)); have HS := Lib.hid (hS.below hb0); have HB := Lib.hid hb0; have HN := Lib.hid hn0; have HX := Lib.hid (dec_yes hx); have hE : getE S x = if (getG S 2000 x 0).2.1 = 3 ∧ hgtF S 2000 x = none then 4 else (getG S 2000 x 0).2.1 := by unfold getE; rfl
 have HE := Lib.hid hE; have HDL := Lib.hid hS.dl''; have hz0 : (w.alloc (.cells #[.int .i64 0, .int .i64 0, .string ⟨#[]⟩, .slice none 0 0] 49 (0, 0))).heap.size = w.heap.size + 1 := by simp
 have hb1 := below_new (w.alloc (.cells #[.int .i64 0, .int .i64 0, .string ⟨#[]⟩, .slice none 0 0] 49 (0, 0))) (.cells #[.pointer (some ⟨p, 0, none⟩), .int .i64 0, .map none] 110 (0, 0)); have hn1 := heap_alloc_new (w.alloc (.cells #[.int .i64 0, .int .i64 0, .string ⟨#[]⟩, .slice none 0 0] 49 (0, 0))) (.cells #[.pointer (some ⟨p, 0, none⟩), .int .i64 0, .map none] 110 (0, 0)); rw [hz0] at hn1 hb1; have HB1 := Lib.hid hb1; have HN1 := Lib.hid hn1; have HZ0 := Lib.hid hz0; clear hb0 hn0 hS hb1 hn1 hz0 hE; obtain ⟨r, hr⟩ : ∃ r, r = getG S 2000 x 0 := ⟨_, rfl⟩; have hgt := fun (u : World) h1 h2 h3 => gt_get S hin D (w.heap.size + 1) p (.map none) 2000 x 0 1 u hx (by omega) (by omega) (Nat.le_refl _) h1 h2 h3
 rw [← hr] at hgt HE hbad; have HGT := Lib.hid hgt; have hhin : hin = hin := rfl; clear hgt hr hhin; obtain ⟨t0, er, n⟩ := r; dsimp only at HE hbad
 go_enter Try.func19, Try.ntmps19
 go_wp2_with fail
 refine (sto_there _ HS.out x).mono ?_; rintro e1 w1 ⟨rfl, rfl⟩; rw [HX.out]
 go_wp2_with fail
 refine (HGT.out _ (HS.out.below (HB1.out.mono (by rw [HZ0.out]; exact Nat.le_refl _))) (fun h => by have := HDL.out _ h; omega) (by exact HN1.out)).mono ?_; rintro e2 w2 ⟨a, c, rfl, hi2, hg2, hk2⟩; dsimp only at hi2 hg2 ⊢; have hz1 : ((w.alloc (.cells #[.int .i64 0, .int .i64 0, .string ⟨#[]⟩, .slice none 0 0] 49 (0, 0))).alloc (.cells #[.pointer (some ⟨p, 0, none⟩), .int .i64 0, .map none] 110 (0, 0))).heap.size = w.heap.size + 2 := by simp
 have hr2 : w2.heap[w.heap.size]? = _ := (hk2.block w.heap.size (by omega) (by omega)).trans ((HB1.out.block w.heap.size (by omega)).trans HN.out)
 have hb2 : Below w.heap.size w w2 := by
  refine ⟨hk2.os, hk2.tape, hk2.output, by have := hk2.size; omega, fun b hlt => ?_⟩; exact (hk2.block b (by omega) (by omega)).trans ((HB1.out.block b (by omega)).trans (HB.out.block b hlt))
 have hs2 : StoAt w2 D p S := (HS.out.below (HB1.out.mono (by rw [HZ0.out]; exact Nat.le_refl _))).keep hk2.size fun b hlt hb => hk2.block b hlt fun e => by have := HDL.out b hb; omega
 have hz2 : w.heap.size + 2 ≤ w2.heap.size := by have := hk2.size; omega
 have hb5 := below_new w2 (.cells #[.int .i64 t0.k, .int .i64 t0.n, .string t0.s, .slice a t0.args.length c] 49 (0, 0)); have hr5 := (hb5.block w.heap.size (by omega)).trans hr2; have hg5 := (hb5.block (w.heap.size + 1) (by omega)).trans hg2; have HR5 := Lib.hid hr5; have HG5 := Lib.hid hg5; have HB5 := Lib.hid (hb2.trans (hb5.mono (by omega))); have HS5 := Lib.hid (hs2.below hb5); have hz5 : w.heap.size + 3 ≤ (w2.alloc (.cells #[.int .i64 t0.k, .int .i64 t0.n, .string t0.s, .slice a t0.args.length c] 49 (0, 0))).heap.size := by simp; omega
 clear hi2 hg2 hk2 hz1 hr2 hb2 hb5 hr5 hg5 hs2
 by_cases h3 : er = 3
 ·subst h3
  go_upto_region 8 with fail
  generalize w2.alloc (.cells #[.int .i64 t0.k, .int .i64 t0.n, .string t0.s, .slice a t0.args.length c] 49 (0, 0)) = w5 at *; obtain ⟨mb, hmb⟩ : ∃ mb, mb = w5.heap.size := ⟨_, rfl⟩; have hb6 := below_new w5 (.map #[] 0); have hg6 := (hb6.block (w.heap.size + 1) (by omega)).trans HG5.out; have hr6 := (hb6.block w.heap.size (by omega)).trans HR5.out; have hs6 := HS5.out.below hb6; have hm6 := IMap.made w5; have hb6' := HB5.out.trans (hb6.mono (by have := HB5.out.size; omega)); rw [← hmb] at hm6; have hmz : mb ≠ w.heap.size + 1 := by omega
  have hgd : ¬ D (w.heap.size + 1) := fun h => by have := HDL.out _ h; omega
  have hmd : ¬ D mb := fun h => by have := HDL.out _ h; omega
  go_wp2_with (with_reducible show wpList _ _ _ (⟨some 28, _, _, _, _, _⟩ :: _) _ _
               refine wpList_imap_made rfl _ rfl ?_; rw [← hmb]; generalize w5.alloc (.map #[] 0) = w6 at *; obtain ⟨y0, y1, y2⟩ := row3 hg6; have hz2' := frozen_of_row _ (w.heap.size + 1) 2 _ _ hg6; have HG6 := Lib.hid hg6; have HR6 := Lib.hid hr6; have HS6 := Lib.hid hs6; have HM6 := Lib.hid hm6; have HB6 := Lib.hid hb6'; have HMB := Lib.hid hmb; clear hg6 hr6 hs6 hm6 hb6 hb6' hmb)
  have hg7 := heap_setCell_same w6 (w.heap.size + 1) 2 _ _ (.map (some mb)) HG6.out
  have hat : HtAt S D (w.heap.size + 1) mb p n [] (w6.setCell ⟨w.heap.size + 1, 2, none⟩ (.map (some mb))) :=
   ⟨HS6.out.keep (by simp [World.setCell]) fun b _ hb => Below.heap_setCell _ _ _ _ fun e => hgd (by have e : b = w.heap.size + 1 := e; subst e; exact hb), by simpa using hg7, HM6.out.below (Below.heap_setCell _ _ _ _ hmz), fun x v h => by cases h⟩
  have hr7 : (w6.setCell ⟨w.heap.size + 1, 2, none⟩ (.map (some mb))).heap[w.heap.size]? = _ := (Below.heap_setCell _ _ _ _ (show w.heap.size ≠ w.heap.size + 1 by omega)).trans HR6.out; have HAT := Lib.hid hat; have HR7 := Lib.hid hr7; have hb7 : Below w.heap.size w (w6.setCell ⟨w.heap.size + 1, 2, none⟩ (.map (some mb))) := HB6.out.setCell (Nat.le_succ _) _; have HB7 := Lib.hid hb7; have hwm : w.heap.size < mb := by have := HMB.out; have := HB5.out.size; omega
  clear hg7 hat hr7 hb7 y0 y1 y2 hz2'
  go_wp2_with fail
  refine (gt_height S hin D (w.heap.size + 1) mb p n hgd hmd 2000 x 1 [] _ hx (by omega) (by omega) HAT.out).mono ?_; rintro e8 w8 ⟨hv, K8, rfl, -, hat8, hk8⟩; have hr8 := (hk8.block w.heap.size (Array.getElem?_eq_some_iff.1 HR7.out).1 (by omega)).trans HR7.out; have hb8 : Below w.heap.size w w8 := ⟨hk8.os.trans HB7.out.os, hk8.tape.trans HB7.out.tape, hk8.output.trans HB7.out.output, Nat.le_trans HB7.out.size hk8.size, fun b hlt => (hk8.block b (by have := HB7.out.size; omega) (by omega)).trans (HB7.out.block b hlt)⟩; have HR8 := Lib.hid hr8; have HB8 := Lib.hid hb8; clear hat8 hk8 hr8 hb8 HAT HR7 HB7; cases hh : hgtF S 2000 x with
  | none =>
    have hv : getE S x = 4 := by rw [HE.out]; rw [if_pos]; simp [hh]
    have HV := Lib.hid hv; clear hv hh hbad; simp only [Option.isSome_none]
    go_wp2_with (with_reducible show wpList _ _ _ (⟨none, .store _ (.tmp 4) _, _, _, _, _⟩ :: _) _ _
                 refine wpList_store_row rfl 49 (.tmp 4) (.tmp 39) rfl w.heap.size #[.int .i64 0, .int .i64 0, .string ⟨#[]⟩, .slice none 0 0] rfl rfl _ _ HR8.out size_term rfl (one4 _ _ _ _ _ _) ?_)
    have hz := setRow_heap _ w.heap.size _ #[.int .i64 0, .int .i64 0, .string ⟨#[]⟩, .slice none 0 0] _ _ HR8.out; refine bodyPost_ret (v := .tuple #[aggT zeroTm none 0, .int .i64 4]) (Push.results_cell_tmp Try.results19 _ _ w.heap.size _ _ _ _ _ rfl (by simp) hz Try.underlying49 rfl (by kernel_rfl)) rfl ⟨by rw [HV.out], below_setRow HB8.out (Nat.le_refl _) _⟩
  | some h =>
    have hv : getE S x = 3 := by rw [HE.out]; rw [if_neg]; simp [hh]
    have HV := Lib.hid hv; clear hv hh hbad; simp only [Option.isSome_some]
    go_wp2_with (with_reducible show wpList _ _ _ (⟨none, .store _ (.tmp 4) _, _, _, _, _⟩ :: _) _ _
                 refine wpList_store_row rfl 49 (.tmp 4) (.tmp 39) rfl w.heap.size #[.int .i64 0, .int .i64 0, .string ⟨#[]⟩, .slice none 0 0] rfl rfl _ _ HR8.out size_term rfl (one4 _ _ _ _ _ _) ?_)
    have hz := setRow_heap _ w.heap.size _ #[.int .i64 0, .int .i64 0, .string ⟨#[]⟩, .slice none 0 0] _ _ HR8.out; refine bodyPost_ret (v := .tuple #[aggT zeroTm none 0, .int .i64 3]) (Push.results_cell_tmp Try.results19 _ _ w.heap.size _ _ _ _ _ rfl (by simp) hz Try.underlying49 rfl (by kernel_rfl)) rfl ⟨by rw [HV.out], below_setRow HB8.out (Nat.le_refl _) _⟩
 ·have hv : getE S x = er := by rw [HE.out]; exact if_neg fun h => h3 h.1
  have HV := Lib.hid hv; have b1 : (er == 3) = false := by simpa using h3
  have b2 : (er != 0) = true := by simpa using hbad
  clear hv h3 hbad
  go_wp2_with (with_reducible show wpList _ _ _ (⟨none, .store _ (.tmp 4) _, _, _, _, _⟩ :: _) _ _
               refine wpList_store_row rfl 49 (.tmp 4) (.tmp 39) rfl w.heap.size #[.int .i64 0, .int .i64 0, .string ⟨#[]⟩, .slice none 0 0] rfl rfl _ _ HR5.out size_term rfl (one4 _ _ _ _ _ _) ?_)
  have hz := setRow_heap _ w.heap.size _ #[.int .i64 0, .int .i64 0, .string ⟨#[]⟩, .slice none 0 0] _ _ HR5.out; refine bodyPost_ret (v := .tuple #[aggT zeroTm none 0, .int .i64 er]) (Push.results_cell_tmp Try.results19 _ _ w.heap.size _ _ _ _ _ rfl (by simp) hz Try.underlying49 rfl (by kernel_rfl)) rfl ⟨by rw [HV.out], below_setRow HB5.out (Nat.le_refl _) _⟩
section
variable {w0 w w' : World} {p : Nat} {S S' : Sto} {D D' : Nat → Prop}
theorem law_GetE (h : Law8 w0 p S D w) (hI : Inv S) (x : Nat) (hx : x < S.cells.length) :
 Calls Try.prog 19 #[.pointer (some ⟨p, 0, none⟩), .int .i64 x] w fun e w' => ∃ a c, e = .returned (.tuple #[aggT (getT S x) a c, .int .i64 (getE S x)]) ∧ Law8 w0 p S D w' ∧ Step D w D w' ∧ IsTm w' (fun b => Free D w' b ∧ w.heap.size ≤ b) (aggT (getT S x) a c) (getT S x) := by
 by_cases h0 : (getG S 2000 x 0).2.1 = 0
 ·have e1 : getT S x = (getG S 2000 x 0).1 := if_pos h0
  have e2 : getE S x = 0 := by unfold getE; rw [if_neg (by rw [h0]; simp)]; exact h0
  rw [e1, e2]; refine (sto_Get_ok w hI.stoIn h.sto x hx _ (getG S 2000 x 0).2.2 (Prod.ext rfl (Prod.ext h0 rfl))).mono ?_; rintro e w' ⟨a, c, rfl, hi, hb⟩; obtain ⟨h1, h2, h3⟩ := h.below hb; exact ⟨a, c, rfl, h1, h2, hi.low.imp (fun b hb' => ⟨h3 b hb'.1 hb'.2, hb'.1⟩) fun _ _ _ => rfl⟩
 ·have e1 : getT S x = zeroTm := if_neg h0
  rw [e1]; refine (sto_Get_bad w hI.stoIn h.sto x hx h0).mono ?_; rintro e w' ⟨rfl, hb⟩; obtain ⟨h1, h2, h3⟩ := h.below hb; exact ⟨none, 0, rfl, h1, h2, zero_tm _ _⟩
end
end Go.Proofs.Ytcbijikalfodnaa.Tms
