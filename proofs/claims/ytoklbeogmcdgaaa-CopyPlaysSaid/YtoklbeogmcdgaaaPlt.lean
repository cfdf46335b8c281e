
/-
  Layer 8's store, plain: what holds of every store that New made: cells, chains, bonds; what each step leaves of it.
  Layer 8's store, plain: Put: how many cells it takes, that the invariant stays, and what tree a cell is then.
  Layer 8's store, plain: what is put without told variables, is got: the same tree, its variables renamed; what it takes, where its root lies, its tops.
-/
import Derived.Test.YtoklbeogmcdgaaaStn
import Derived.Test.YtoklbeogmcdgaaaStl
import Derived.Test.YtoklbeogmcdgaaaNup
import Derived.Test.YtoklbeogmcdgaaaMend
import Derived.Test.YtoklbeogmcdgaaaGmy
namespace Go.Proofs.Ytoklbeogmcdgaaa.Tms
open Go Go.RowKit Go.Proofs.Ytoklbeogmcdgaaa.Reg Go.Proofs.Ytoklbeogmcdgaaa.Rws Go.Proofs.Ytoklbeogmcdgaaa.Maps
set_option linter.unusedVariables false
set_option linter.unusedSimpArgs false

structure CellOk (n : Nat) (c : SCell) : Prop where
  len : c.args.length ≤ 255
  args : ∀ a ∈ c.args, 0 ≤ a ∧ a < n
  lk : c.lk = -1 ∨ (0 ≤ c.lk ∧ c.lk < n ∧ c.k = 1)
  var : c.k = 1 → c.args = []
structure Inv (S : Sto) : Prop where
  len : (S.cells.length : Int) ≤ S.room
  room : S.room ≤ 16777216
  cell : ∀ (x : Nat) (c : SCell), S.cells[x]? = some c → CellOk S.cells.length c
  rank : ∃ rk : Nat → Nat, ∀ (x : Nat) (c : SCell), S.cells[x]? = some c → ∀ y : Nat, c.lk = (y : Int) → rk y < rk x
  bond : ∀ b ∈ S.bonds, ∃ (v : Nat) (c : SCell), b.1 = (v : Int) ∧ S.cells[v]? = some c ∧ 0 ≤ c.lk
  nodup : (S.bonds.map (·.1)).Nodup
theorem nodup_len : ∀ (n : Nat) (l : List Nat), l.Nodup → (∀ x ∈ l, x < n) → l.length ≤ n
  | 0, l, _, h => by
    cases l with
    | nil => simp
    | cons a l => exact absurd (h a (by simp)) (by omega)
  | n + 1, l, hn, h => by
    have h1 := nodup_len n (l.filter fun x => decide (x < n)) (hn.sublist List.filter_sublist) (fun x hx => by simpa using (List.mem_filter.1 hx).2)
    have h2 : l.countP (fun x => !decide (x < n)) ≤ 1 := by
      have e : l.countP (fun x => !decide (x < n)) = l.count n := by
        unfold List.count
        apply List.countP_congr
        intro x hx
        have := h x hx
        simp
        omega
      rw [e]
      exact List.nodup_iff_count.1 hn n
    have h3 := List.length_eq_countP_add_countP (fun x => decide (x < n)) (l := l)
    rw [List.countP_eq_length_filter] at h3
    have h4 : l.countP (fun a => decide ¬(decide (a < n)) = true) = l.countP (fun x => !decide (x < n)) := by
      apply List.countP_congr; intro x _; simp
    omega
theorem Inv.small {S : Sto} (h : Inv S) : S.cells.length ≤ 16777216 := by have := h.len; have := h.room; omega
theorem Inv.room0 {S : Sto} (h : Inv S) : 0 ≤ S.room := by have := h.len; omega
theorem Inv.bsmall {S : Sto} (h : Inv S) : S.bonds.length ≤ S.cells.length := by
  have h1 := nodup_len S.cells.length (S.bonds.map fun b => b.1.toNat) ?_ ?_
  · simpa using h1
  · have e : (S.bonds.map fun b => b.1.toNat) = (S.bonds.map (·.1)).map Int.toNat := by simp
    rw [e]
    have hn := h.nodup
    rw [List.nodup_iff_pairwise_ne] at hn ⊢
    rw [List.pairwise_map]
    refine hn.imp_of_mem fun {a b} ha hb hab e => hab ?_
    obtain ⟨b1, hb1, rfl⟩ := List.mem_map.1 ha
    obtain ⟨b2, hb2, rfl⟩ := List.mem_map.1 hb
    obtain ⟨v1, -, e1, -⟩ := h.bond b1 hb1
    obtain ⟨v2, -, e2, -⟩ := h.bond b2 hb2
    rw [e1, e2] at e ⊢
    simp at e
    rw [e]
  · intro x hx
    obtain ⟨b, hb, rfl⟩ := List.mem_map.1 hx
    obtain ⟨v, c, e, hc, -⟩ := h.bond b hb
    rw [e]
    exact (List.getElem?_eq_some_iff.1 hc).1
theorem Inv.ch {S : Sto} (h : Inv S) : ∀ x, x < S.cells.length → ∃ f r, Ch S f x r := by
  obtain ⟨rk, hr⟩ := h.rank
  intro x
  generalize hn : rk x = n
  induction n using Nat.strongRecOn generalizing x with
  | _ n ih =>
    intro hx
    have hc := List.getElem?_eq_getElem hx
    rcases (h.cell x _ hc).lk with e | ⟨h0, h1, -⟩
    · exact ⟨0, x, hx, by rw [e]; decide, rfl⟩
    · obtain ⟨y, hy⟩ : ∃ y : Nat, S.cells[x].lk = (y : Int) := ⟨S.cells[x].lk.toNat, by omega⟩
      have hlt := hr x _ hc y hy
      rw [hn] at hlt
      obtain ⟨f, r, hf⟩ := ih (rk y) hlt y rfl (by omega)
      exact ⟨f + 1, r, hx, y, hy, hf⟩
theorem Inv.bnd {S : Sto} (h : Inv S) : ∀ b ∈ S.bonds, 0 ≤ b.1 ∧ b.1 < S.cells.length := fun b hb => by
  obtain ⟨v, c, e, hc, -⟩ := h.bond b hb
  have := (List.getElem?_eq_some_iff.1 hc).1
  omega
theorem Inv.stoOk {S : Sto} (h : Inv S) : StoOk S := ⟨by have := h.small; omega, by have := h.small; have := h.bsmall; omega, h.ch, h.bnd⟩
theorem Inv.stoIn {S : Sto} (h : Inv S) : StoIn S := ⟨by have := h.small; omega, h.ch, fun c hc => by
  obtain ⟨x, hx, rfl⟩ := List.mem_iff_getElem.1 hc
  have := h.cell x _ (List.getElem?_eq_getElem hx)
  exact ⟨by have := this.len; omega, this.args⟩⟩
theorem Inv.folch {S : Sto} (h : Inv S) {x : Nat} (hx : x < S.cells.length) : ∃ f, Ch S f x (fol S x) := let ⟨f, h1, _⟩ := h.stoIn.fol hx; ⟨f, h1⟩
theorem Inv.fol_lt {S : Sto} (h : Inv S) {x : Nat} (hx : x < S.cells.length) : fol S x < S.cells.length := by obtain ⟨f, hc⟩ := h.folch hx; exact hc.end_.1
theorem Inv.fol_free {S : Sto} (h : Inv S) {x : Nat} (hx : x < S.cells.length) : (S.cells[fol S x]'(h.fol_lt hx)).lk = -1 := by
  obtain ⟨f, hc⟩ := h.folch hx
  obtain ⟨h1, h2⟩ := hc.end_
  rcases (h.cell _ _ (List.getElem?_eq_getElem h1)).lk with e | e
  · exact e
  · omega
theorem fol_root {S : Sto} {x : Nat} {c : SCell} (hc : S.cells[x]? = some c) (hl : c.lk = -1) : fol S x = x := by
  obtain ⟨hx, rfl⟩ := List.getElem?_eq_some_iff.1 hc
  exact fol_eq (f := 0) ⟨hx, by rw [hl]; decide, rfl⟩
theorem Inv.new (n : Int) (h : 0 ≤ n) (h2 : n ≤ 16777216) : Inv ⟨n, [], []⟩ := ⟨by simpa using h, h2, fun x c hc => by simp at hc, ⟨fun _ => 0, fun x c hc => by simp at hc⟩, by simp, by simp⟩
theorem CellOk.mono {n m : Nat} {c : SCell} (h : CellOk n c) (hm : n ≤ m) : CellOk m c := ⟨h.len, fun a ha => by have := h.args a ha; omega, h.lk.imp_right fun h => ⟨h.1, by omega, h.2.2⟩, h.var⟩
/-- new cells, none of them bound -/
theorem Inv.plus {S : Sto} (h : Inv S) (l : List SCell) (hl : ∀ c ∈ l, CellOk (S.cells.length + l.length) c ∧ c.lk = -1) (hr : ((S.cells.length + l.length : Nat) : Int) ≤ S.room) : Inv (plusS S l) := by
  obtain ⟨rk, hrk⟩ := h.rank
  have old : ∀ x c, (plusS S l).cells[x]? = some c → (S.cells[x]? = some c ∧ x < S.cells.length) ∨ c ∈ l := fun x c hc => by
    show _ ∨ _
    have hc : (S.cells ++ l)[x]? = some c := hc
    by_cases hx : x < S.cells.length
    · rw [List.getElem?_append_left hx] at hc; exact .inl ⟨hc, hx⟩
    · rw [List.getElem?_append_right (by omega)] at hc; exact .inr (List.mem_of_getElem? hc)
  refine ⟨by simpa [plusS] using hr, h.room, fun x c hc => ?_, ⟨rk, fun x c hc y hy => ?_⟩, fun b hb => ?_, h.nodup⟩
  · have e : (plusS S l).cells.length = S.cells.length + l.length := by simp [plusS]
    rw [e]
    rcases old x c hc with ⟨h1, -⟩ | h1
    · exact (h.cell x c h1).mono (by omega)
    · exact (hl c h1).1
  · rcases old x c hc with ⟨h1, -⟩ | h1
    · exact hrk x c h1 y hy
    · rw [(hl c h1).2] at hy; omega
  · obtain ⟨v, c, e, hc, h0⟩ := h.bond b hb
    refine ⟨v, c, e, ?_, h0⟩
    show (S.cells ++ l)[v]? = some c
    rw [List.getElem?_append_left (List.getElem?_eq_some_iff.1 hc).1]
    exact hc
theorem Inv.fresh {S : Sto} (h : Inv S) (hr : (S.cells.length : Int) < S.room) : Inv (freshS S) :=
  h.plus [⟨1, 0, ⟨#[]⟩, [], -1, lastTop S.cells⟩] (by
    intro c hc
    simp only [List.mem_singleton] at hc
    subst hc
    exact ⟨⟨by simp, by simp, .inl rfl, fun _ => rfl⟩, rfl⟩) (by simp; omega)
theorem bindS_cells {S : Sto} {v t : Nat} (hv : v < S.cells.length) : (bindS S v t).cells = S.cells.set v { S.cells[v] with lk := (t : Int) } := setTo_at hv
theorem loose_bind {S : Sto} {v t : Nat} (hv : v < S.cells.length) (hl : (S.cells[v]).lk = -1) : looseS (bindS S v t) = S := by
  have hb : (bindS S v t).bonds = S.bonds ++ [((v : Int), topB S.bonds (max v t))] := rfl
  rw [looseS_at hb]
  have hvl : v < (bindS S v t).cells.length := by rw [bindS_cells hv]; simpa using hv
  have e : setTo (bindS S v t) v (-1) = S.cells := by
    rw [setTo_at hvl]
    have hg : (bindS S v t).cells[v] = { S.cells[v] with lk := (t : Int) } := by
      have : (bindS S v t).cells[v]? = some { S.cells[v] with lk := (t : Int) } := by rw [bindS_cells hv]; simp [hv]
      rw [List.getElem?_eq_getElem hvl] at this
      exact Option.some.inj this
    rw [hg, bindS_cells hv, List.set_set]
    have : ({ ({ S.cells[v] with lk := (t : Int) } : SCell) with lk := -1 } : SCell) = S.cells[v] := by
      rw [← hl]
    rw [this, List.set_getElem_self]
  rw [e]
  rfl
theorem Inv.bind {S : Sto} (h : Inv S) {v t : Nat} (hv : v < S.cells.length) (ht : t < S.cells.length) (hvl : (S.cells[v]).lk = -1) (htl : (S.cells[t]).lk = -1) (hk : (S.cells[v]).k = 1) (hne : v ≠ t) : Inv (bindS S v t) := by
  obtain ⟨rk, hrk⟩ := h.rank
  have hc := bindS_cells (t := t) hv
  have hlen : (bindS S v t).cells.length = S.cells.length := by rw [hc]; simp
  have get : ∀ x c, (bindS S v t).cells[x]? = some c → (x ≠ v ∧ S.cells[x]? = some c) ∨ (x = v ∧ c = { S.cells[v] with lk := (t : Int) }) := fun x c h' => by
    rw [hc, List.getElem?_set] at h'
    by_cases e : v = x
    · subst e; rw [if_pos rfl, if_pos hv] at h'; exact .inr ⟨rfl, (Option.some.inj h').symm⟩
    · rw [if_neg e] at h'; exact .inl ⟨fun h => e h.symm, h'⟩
  refine ⟨by rw [hlen]; exact h.len, h.room, fun x c hx => ?_, ⟨fun y => if Tms.fol S y = v then rk y + (rk t + 1) else rk y, fun x c hx y hy => ?_⟩, fun b hb => ?_, ?_⟩
  · rw [hlen]
    rcases get x c hx with ⟨-, h1⟩ | ⟨rfl, rfl⟩
    · exact h.cell x c h1
    · have hcv := h.cell x _ (List.getElem?_eq_getElem hv)
      exact ⟨hcv.len, hcv.args, .inr ⟨by simp, by simp; exact ht, hk⟩, hcv.var⟩
  · rcases get x c hx with ⟨hxv, h1⟩ | ⟨rfl, rfl⟩
    · have hlt := hrk x c h1 y hy
      have hxl := (List.getElem?_eq_some_iff.1 h1).1
      have hyl : y < S.cells.length := by
        rcases (h.cell x c h1).lk with e | e
        · omega
        · omega
      have hf : Tms.fol S x = Tms.fol S y := by
        obtain ⟨f, hf⟩ := h.folch hyl
        exact fol_eq (f := f + 1) ⟨hxl, y, by rw [(List.getElem?_eq_some_iff.1 h1).2]; exact hy, hf⟩
      dsimp only
      rw [hf]
      split <;> omega
    · have e : y = t := by simp only [Int.ofNat_inj] at hy; exact hy.symm
      subst e
      have h1 : Tms.fol S x = x := fol_root (List.getElem?_eq_getElem hv) hvl
      have h2 : Tms.fol S y = y := fol_root (List.getElem?_eq_getElem ht) htl
      dsimp only
      rw [if_pos h1, h2, if_neg (fun e => hne e.symm)]
      omega
  · have hb : b ∈ S.bonds ++ [((v : Int), topB S.bonds (max v t))] := hb
    rcases List.mem_append.1 hb with hb | hb
    · obtain ⟨u, c, e, hcu, h0⟩ := h.bond b hb
      have huv : u ≠ v := fun e => by
        subst e
        rw [List.getElem?_eq_getElem hv] at hcu
        have := Option.some.inj hcu
        rw [← this, hvl] at h0
        omega
      refine ⟨u, c, e, ?_, h0⟩
      rw [hc, List.getElem?_set, if_neg fun e => huv e.symm]
      exact hcu
    · simp only [List.mem_singleton] at hb
      subst hb
      exact ⟨v, _, rfl, by rw [hc, List.getElem?_set, if_pos rfl, if_pos hv], by simp⟩
  · show ((S.bonds ++ [((v : Int), topB S.bonds (max v t))]).map (·.1)).Nodup
    rw [List.map_append]
    refine List.nodup_append.2 ⟨h.nodup, by simp, fun a ha b hb e => ?_⟩
    simp only [List.map_cons, List.map_nil, List.mem_singleton] at hb
    obtain ⟨p, hp, rfl⟩ := List.mem_map.1 ha
    obtain ⟨u, c, e1, hcu, h0⟩ := h.bond p hp
    have : u = v := by rw [e1, hb] at e; omega
    subst this
    rw [List.getElem?_eq_getElem hv] at hcu
    have := Option.some.inj hcu
    rw [← this, hvl] at h0
    omega
end Go.Proofs.Ytoklbeogmcdgaaa.Tms
namespace Go.Proofs.Ytoklbeogmcdgaaa.Tms
open Go Go.RowKit Go.Proofs.Ytoklbeogmcdgaaa.Reg Go.Proofs.Ytoklbeogmcdgaaa.Rws Go.Proofs.Ytoklbeogmcdgaaa.Maps
set_option linter.unusedVariables false
set_option linter.unusedSimpArgs false

mutual
/-- of all variables of a term -/
def VarsIn (Q : Int → Prop) : Tm → Prop
  | .mk k n _ a => (k = 1 → Q n) ∧ VarsInL Q a
def VarsInL (Q : Int → Prop) : List Tm → Prop
  | [] => True
  | t :: l => VarsIn Q t ∧ VarsInL Q l
end
theorem may_args {t : Tm} (h : mayT t = true) : ∀ x ∈ t.args, mayT x = true := fun x hx => may_arg h hx
theorem may_leaf {t : Tm} (h : mayT t = true) (h1 : t.k ≠ 1) (h4 : t.k ≠ 4) : t.args = [] := by
  obtain ⟨k, n, s, a⟩ := t
  simp only [Tm.k] at h1 h4
  have hk := may_kind h
  simp only [Tm.k] at hk
  simp only [mayT, Bool.and_eq_true, mayB] at h
  simp only [Tm.args]
  rcases hk with rfl | rfl | rfl | rfl
  · exact absurd rfl h1
  · simp at h; exact h.1.2
  · simp at h; exact h.1.2.2
  · exact absurd rfl h4
theorem may_len {t : Tm} (h : mayT t = true) : t.args.length ≤ 255 := by
  rcases may_kind h with k | k | k | k
  · rw [may_var h k]; simp
  · rw [may_leaf h (by omega) (by omega)]; simp
  · rw [may_leaf h (by omega) (by omega)]; simp
  · obtain ⟨k', n, s, a⟩ := t
    simp only [Tm.k] at k
    subst k
    simp only [mayT, Bool.and_eq_true, mayB] at h
    simp at h
    simp only [Tm.args]
    omega
mutual
theorem cnt_told {told : Int → Option Int} {N : Nat} : ∀ (t : Tm) (c : Nat) (F : List (Int × Int)), mayT t = true → (cntT told N c F t).1 = true → VarsIn (fun n => ∀ a, told n = some a → 0 ≤ a ∧ a < N) t
  | .mk k n s a, c, F, hm, h => by
    unfold VarsIn
    by_cases k1 : k = 1
    · rw [cntT_var (t := .mk k n s a) k1] at h
      have ha : a = [] := may_var hm k1
      subst ha
      refine ⟨fun _ b hb => ?_, trivial⟩
      simp only [Tm.n] at h
      rw [hb] at h
      simpa using h
    · rw [cntT_not (t := .mk k n s a) k1] at h
      exact ⟨fun e => absurd e k1, cnt_toldL a (c + 1) F (may_args hm) h⟩
theorem cnt_toldL {told : Int → Option Int} {N : Nat} : ∀ (l : List Tm) (c : Nat) (F : List (Int × Int)), (∀ x ∈ l, mayT x = true) → (cntL told N c F l).1 = true → VarsInL (fun n => ∀ a, told n = some a → 0 ≤ a ∧ a < N) l
  | [], c, F, hm, h => trivial
  | t :: l, c, F, hm, h => by
    unfold VarsInL
    by_cases hx : (cntT told N c F t).1 = true
    · rw [cntL_pos hx] at h
      exact ⟨cnt_told t c F (hm t (by simp)) hx, cnt_toldL l _ _ (fun x hx => hm x (List.mem_cons_of_mem _ hx)) h⟩
    · rw [cntL_neg hx] at h
      exact absurd h hx
end
theorem mget_some {l : List (Int × Int)} {n v : Int} (h : mget l n = some v) : (n, v) ∈ l := by
  induction l with
  | nil => simp [mget] at h
  | cons p l ih =>
    simp only [mget] at h
    split at h
    · rename_i e
      obtain rfl := Option.some.inj h
      rw [e]; simp
    · exact List.mem_cons_of_mem _ (ih h)
theorem mget_keys {F G : List (Int × Int)} (h : F.map (·.1) = G.map (·.1)) (n : Int) : mget F n = none ↔ mget G n = none := by
  rw [mget_none, mget_none]
  have e : ∀ L : List (Int × Int), (∀ p ∈ L, p.1 ≠ n) ↔ n ∉ L.map (·.1) := fun L => by
    simp only [List.mem_map, not_exists, not_and]
  rw [e, e, h]
mutual
theorem cnt_put {told : Int → Option Int} {N : Nat} (T0 : Int) : ∀ (t : Tm) (c b : Nat) (F G : List (Int × Int)), mayT t = true → F.map (·.1) = G.map (·.1) → (cntT told N c F t).1 = true →
    (cntT told N c F t).2.1 = c + (putT told T0 b G t).2.1.length ∧ (cntT told N c F t).2.2.map (·.1) = (putT told T0 b G t).2.2.map (·.1)
  | .mk k n s a, c, b, F, G, hm, hk, h => by
    by_cases k1 : k = 1
    · rw [cntT_var (t := .mk k n s a) k1, putT_var (t := .mk k n s a) k1]
      simp only [Tm.n]
      cases h1 : told n with
      | some x => exact ⟨rfl, hk⟩
      | none =>
        cases h2 : mget F n with
        | some x =>
          cases h3 : mget G n with
          | some y => exact ⟨rfl, hk⟩
          | none => rw [(mget_keys hk n).2 h3] at h2; cases h2
        | none =>
          rw [(mget_keys hk n).1 h2]
          exact ⟨rfl, by simp [hk]⟩
    · rw [cntT_not (t := .mk k n s a) k1] at h ⊢
      by_cases k4 : k = 4
      · rw [putT_comp (t := .mk k n s a) k4]
        obtain ⟨e1, e2⟩ := cnt_putL T0 a (c + 1) (b + 1) F G (may_args hm) hk h
        refine ⟨?_, e2⟩
        simp only [Tm.args, List.length_cons]
        rw [e1]
        omega
      · rw [putT_leaf (t := .mk k n s a) k1 k4]
        have ha : a = [] := may_leaf hm k1 k4
        subst ha
        simp only [Tm.args]
        rw [cntL_nil]
        exact ⟨rfl, hk⟩
theorem cnt_putL {told : Int → Option Int} {N : Nat} (T0 : Int) : ∀ (l : List Tm) (c b : Nat) (F G : List (Int × Int)), (∀ x ∈ l, mayT x = true) → F.map (·.1) = G.map (·.1) → (cntL told N c F l).1 = true →
    (cntL told N c F l).2.1 = c + (putL told T0 b G l).2.1.length ∧ (cntL told N c F l).2.2.map (·.1) = (putL told T0 b G l).2.2.map (·.1)
  | [], c, b, F, G, hm, hk, h => by rw [cntL_nil]; simpa [putL] using hk
  | t :: l, c, b, F, G, hm, hk, h => by
    by_cases hx : (cntT told N c F t).1 = true
    · rw [cntL_pos hx] at h ⊢
      obtain ⟨e1, e2⟩ := cnt_put T0 t c b F G (hm t (by simp)) hk hx
      obtain ⟨e3, e4⟩ := cnt_putL T0 l _ (b + (putT told T0 b G t).2.1.length) _ (putT told T0 b G t).2.2 (fun x hx => hm x (List.mem_cons_of_mem _ hx)) e2 h
      simp only [putL, List.length_append]
      exact ⟨by omega, e4⟩
    · rw [cntL_neg hx] at h
      exact absurd h hx
end
/-- the new cells are as they may be -/
def FOk (b : Nat) (F : List (Int × Int)) : Prop := ∀ p ∈ F, 0 ≤ p.2 ∧ p.2 < b
mutual
theorem putT_ok {told : Int → Option Int} {T0 : Int} {b0 : Nat} : ∀ (t : Tm) (b : Nat) (F : List (Int × Int)), mayT t = true → VarsIn (fun n => ∀ a, told n = some a → 0 ≤ a ∧ a < b0) t → b0 ≤ b → FOk b F →
    (0 ≤ (putT told T0 b F t).1 ∧ (putT told T0 b F t).1 < ((b + (putT told T0 b F t).2.1.length : Nat) : Int)) ∧ (∀ c ∈ (putT told T0 b F t).2.1, CellOk (b + (putT told T0 b F t).2.1.length) c ∧ c.lk = -1) ∧ FOk (b + (putT told T0 b F t).2.1.length) (putT told T0 b F t).2.2
  | .mk k n s a, b, F, hm, hv, hb, hF => by
    unfold VarsIn at hv
    by_cases k1 : k = 1
    · rw [putT_var (t := .mk k n s a) k1]
      simp only [Tm.n]
      cases h1 : told n with
      | some x =>
        have := hv.1 k1 x h1
        exact ⟨by simp; omega, by simp, by simpa using hF⟩
      | none =>
        cases h2 : mget F n with
        | some x =>
          have := hF _ (mget_some h2)
          exact ⟨by simpa using this, by simp, by simpa using hF⟩
        | none =>
          refine ⟨by simp; omega, fun c hc => ?_, fun p hp => ?_⟩
          · simp only [List.mem_singleton] at hc
            subst hc
            exact ⟨⟨by simp, by simp, .inl rfl, fun _ => rfl⟩, rfl⟩
          · rcases List.mem_append.1 hp with hp | hp
            · have := hF p hp; simp; omega
            · simp only [List.mem_singleton] at hp; subst hp; simp; omega
    · by_cases k4 : k = 4
      · rw [putT_comp (t := .mk k n s a) k4]
        obtain ⟨h1, h2, h3⟩ := putL_ok (told := told) (T0 := T0) a (b + 1) F (may_args hm) hv.2 (by omega) (fun p hp => by have := hF p hp; omega)
        have hl := putL_len1 told T0 a (b + 1) F
        have hl2 : a.length ≤ 255 := may_len hm
        have e : b + ((putL told T0 (b + 1) F a).2.1.length + 1) = b + 1 + (putL told T0 (b + 1) F a).2.1.length := by omega
        simp only [List.length_cons, Tm.args, Tm.s]
        rw [e]
        refine ⟨by omega, fun c hc => ?_, h3⟩
        rcases List.mem_cons.1 hc with rfl | hc
        · exact ⟨⟨by show (putL told T0 (b + 1) F a).1.length ≤ 255; omega, h1, .inl rfl, fun e => absurd (show (4 : Int) = 1 from e) (by decide)⟩, rfl⟩
        · exact h2 c hc
      · rw [putT_leaf (t := .mk k n s a) k1 k4]
        refine ⟨by simp; omega, fun c hc => ?_, fun p hp => by have := hF p hp; simp; omega⟩
        simp only [List.mem_singleton] at hc
        subst hc
        exact ⟨⟨by simp, by simp, .inl rfl, fun _ => rfl⟩, rfl⟩
theorem putL_ok {told : Int → Option Int} {T0 : Int} {b0 : Nat} : ∀ (l : List Tm) (b : Nat) (F : List (Int × Int)), (∀ x ∈ l, mayT x = true) → VarsInL (fun n => ∀ a, told n = some a → 0 ≤ a ∧ a < b0) l → b0 ≤ b → FOk b F →
    (∀ a ∈ (putL told T0 b F l).1, 0 ≤ a ∧ a < ((b + (putL told T0 b F l).2.1.length : Nat) : Int)) ∧ (∀ c ∈ (putL told T0 b F l).2.1, CellOk (b + (putL told T0 b F l).2.1.length) c ∧ c.lk = -1) ∧ FOk (b + (putL told T0 b F l).2.1.length) (putL told T0 b F l).2.2
  | [], b, F, hm, hv, hb, hF => by simpa [putL] using hF
  | t :: l, b, F, hm, hv, hb, hF => by
    unfold VarsInL at hv
    obtain ⟨h1, h2, h3⟩ := putT_ok (told := told) (T0 := T0) t b F (hm t (by simp)) hv.1 hb hF
    obtain ⟨g1, g2, g3⟩ := putL_ok (told := told) (T0 := T0) l (b + (putT told T0 b F t).2.1.length) (putT told T0 b F t).2.2 (fun x hx => hm x (List.mem_cons_of_mem _ hx)) hv.2 (by omega) h3
    simp only [putL, List.length_append]
    have e : b + ((putT told T0 b F t).2.1.length + (putL told T0 (b + (putT told T0 b F t).2.1.length) (putT told T0 b F t).2.2 l).2.1.length) = b + (putT told T0 b F t).2.1.length + (putL told T0 (b + (putT told T0 b F t).2.1.length) (putT told T0 b F t).2.2 l).2.1.length := by omega
    rw [e]
    refine ⟨fun a ha => ?_, fun c hc => ?_, g3⟩
    · rcases List.mem_cons.1 ha with rfl | ha
      · omega
      · exact g1 a ha
    · rcases List.mem_append.1 hc with hc | hc
      · exact ⟨(h2 c hc).1.mono (by omega), (h2 c hc).2⟩
      · exact g2 c hc
end
theorem fixTop_mem : ∀ {T : Int} {l : List SCell} {c : SCell}, c ∈ fixTop T l → ∃ d ∈ l, c.k = d.k ∧ c.n = d.n ∧ c.s = d.s ∧ c.args = d.args ∧ c.lk = d.lk
  | T, [], c, h => by simp [fixTop] at h
  | T, d :: l, c, h => by
    simp only [fixTop] at h
    rcases List.mem_cons.1 h with rfl | h
    · exact ⟨d, by simp, rfl, rfl, rfl, rfl, rfl⟩
    · obtain ⟨e, he, hh⟩ := fixTop_mem h
      exact ⟨e, List.mem_cons_of_mem _ he, hh⟩
theorem CellOk.top {n : Nat} {c d : SCell} (h : CellOk n d) (e : c.k = d.k ∧ c.n = d.n ∧ c.s = d.s ∧ c.args = d.args ∧ c.lk = d.lk) : CellOk n c := by
  obtain ⟨e1, e2, e3, e4, e5⟩ := e
  exact ⟨by rw [e4]; exact h.len, by rw [e4]; exact h.args, by rw [e5, e1]; exact h.lk, by rw [e1, e4]; exact h.var⟩
/-- what Put may do -/
structure MayPut (S : Sto) (M : List (Int × Int)) (t : Tm) : Prop where
  chk : checkT t = 0
  cnt : (cntT (fun n => mget M n) S.cells.length 0 [] t).1 = true
  fit : ((cntT (fun n => mget M n) S.cells.length 0 [] t).2.1 : Int) ≤ S.room - S.cells.length
theorem MayPut.len {S : Sto} {M : List (Int × Int)} {t : Tm} (h : MayPut S M t) : (((putR S M t).2.1.length : Nat) : Int) ≤ S.room - S.cells.length := by
  have := (cnt_put (lastTop S.cells) t 0 S.cells.length [] [] (check_may h.chk) rfl h.cnt).1
  have h2 := h.fit
  unfold putR
  omega
theorem MayPut.ok {S : Sto} {M : List (Int × Int)} {t : Tm} (h : MayPut S M t) : (0 ≤ (putR S M t).1 ∧ (putR S M t).1 < ((S.cells.length + (putR S M t).2.1.length : Nat) : Int)) ∧ (∀ c ∈ (putR S M t).2.1, CellOk (S.cells.length + (putR S M t).2.1.length) c ∧ c.lk = -1) ∧ FOk (S.cells.length + (putR S M t).2.1.length) (putR S M t).2.2 :=
  putT_ok t S.cells.length [] (check_may h.chk) (cnt_told t 0 [] (check_may h.chk) h.cnt) (Nat.le_refl _) (by intro p hp; simp at hp)
theorem Inv.put {S : Sto} (hI : Inv S) {M : List (Int × Int)} {t : Tm} (h : MayPut S M t) : Inv (putS S M t) := by
  have hl := h.len
  have ho := h.ok
  unfold putS
  refine hI.plus _ (fun c hc => ?_) (by rw [fixTop_len]; omega)
  rw [fixTop_len]
  obtain ⟨d, hd, he⟩ := fixTop_mem hc
  have := ho.2.1 d hd
  exact ⟨this.1.top he, by rw [he.2.2.2.2]; exact this.2⟩
theorem putS_len (S : Sto) (M : List (Int × Int)) (t : Tm) : (putS S M t).cells.length = S.cells.length + (putR S M t).2.1.length := by simp [putS, plusS, fixTop_len]
end Go.Proofs.Ytoklbeogmcdgaaa.Tms
namespace Go.Proofs.Ytoklbeogmcdgaaa.Tms
open Go Go.RowKit Go.Proofs.Ytoklbeogmcdgaaa.Reg Go.Proofs.Ytoklbeogmcdgaaa.Rws Go.Proofs.Ytoklbeogmcdgaaa.Maps
set_option linter.unusedVariables false
set_option linter.unusedSimpArgs false

mutual
def subT (σ : Int → Tm) : Tm → Tm
  | .mk k n s a => if k = 1 then σ n else .mk k n s (subL σ a)
def subL (σ : Int → Tm) : List Tm → List Tm
  | [] => []
  | t :: l => subT σ t :: subL σ l
end
mutual
theorem subT_size {σ : Int → Tm} (h : ∀ n, (σ n).size = 1) : ∀ t : Tm, (subT σ t).size ≤ t.size
  | .mk k n s a => by
    simp only [subT]
    split
    · rw [h]; exact size_pos _
    · have := subL_size h a; simp only [Tm.size]; omega
theorem subL_size {σ : Int → Tm} (h : ∀ n, (σ n).size = 1) : ∀ l : List Tm, sizeL (subL σ l) ≤ sizeL l
  | [] => by simp [subL]
  | t :: l => by have := subT_size h t; have := subL_size h l; simp only [subL, sizeL]; omega
end
/-- the same but for the top -/
def CAgr (c d : SCell) : Prop := c.k = d.k ∧ c.n = d.n ∧ c.s = d.s ∧ c.args = d.args ∧ c.lk = d.lk
def AgreeAt (S : Sto) (b : Nat) (l : List SCell) : Prop := ∀ (i : Nat) (d : SCell), l[i]? = some d → ∃ c, S.cells[b + i]? = some c ∧ CAgr c d
theorem AgreeAt.head {S : Sto} {b : Nat} {d : SCell} {l : List SCell} (h : AgreeAt S b (d :: l)) : ∃ c, S.cells[b]? = some c ∧ CAgr c d := h 0 d rfl
theorem AgreeAt.tail {S : Sto} {b : Nat} {d : SCell} {l : List SCell} (h : AgreeAt S b (d :: l)) : AgreeAt S (b + 1) l := fun i e he => by
  have := h (i + 1) e (by simpa using he)
  rwa [show b + (i + 1) = b + 1 + i by omega] at this
theorem AgreeAt.left {S : Sto} {b : Nat} {l m : List SCell} (h : AgreeAt S b (l ++ m)) : AgreeAt S b l := fun i e he =>
  h i e (by rw [List.getElem?_append_left (List.getElem?_eq_some_iff.1 he).1]; exact he)
theorem AgreeAt.right {S : Sto} {b : Nat} {l m : List SCell} (h : AgreeAt S b (l ++ m)) : AgreeAt S (b + l.length) m := fun i e he => by
  have := h (l.length + i) e (by rw [List.getElem?_append_right (by omega)]; simpa using he)
  rwa [show b + (l.length + i) = b + l.length + i by omega] at this
theorem mget_snoc {n b : Int} : ∀ {F : List (Int × Int)} {m v : Int}, mget F m = some v → mget (F ++ [(n, b)]) m = some v
  | [], m, v, h => by simp [mget] at h
  | p :: F, m, v, h => by
    simp only [List.cons_append, mget] at h ⊢
    split
    · rename_i e; rw [if_pos e] at h; exact h
    · rename_i e; rw [if_neg e] at h; exact mget_snoc h
theorem mget_last {n b : Int} : ∀ {F : List (Int × Int)}, mget F n = none → mget (F ++ [(n, b)]) n = some b
  | [], h => by simp [mget]
  | p :: F, h => by
    simp only [List.cons_append, mget] at h ⊢
    split
    · rename_i e; rw [if_pos e] at h; cases h
    · rename_i e; rw [if_neg e] at h; exact mget_last h
mutual
theorem put_ext {told : Int → Option Int} {T0 : Int} : ∀ (t : Tm) (b : Nat) (F : List (Int × Int)) (m v : Int), mget F m = some v → mget (putT told T0 b F t).2.2 m = some v
  | .mk k n s a, b, F, m, v, h => by
    by_cases k1 : k = 1
    · rw [putT_var (t := .mk k n s a) k1]
      simp only [Tm.n]
      cases told n with
      | some x => exact h
      | none =>
        cases h2 : mget F n with
        | some x => exact h
        | none => exact mget_snoc h
    · by_cases k4 : k = 4
      · rw [putT_comp (t := .mk k n s a) k4]
        exact put_extL a (b + 1) F m v h
      · rw [putT_leaf (t := .mk k n s a) k1 k4]
        exact h
theorem put_extL {told : Int → Option Int} {T0 : Int} : ∀ (l : List Tm) (b : Nat) (F : List (Int × Int)) (m v : Int), mget F m = some v → mget (putL told T0 b F l).2.2 m = some v
  | [], b, F, m, v, h => by simpa [putL] using h
  | t :: l, b, F, m, v, h => by
    simp only [putL]
    exact put_extL l _ _ m v (put_ext t b F m v h)
end
mutual
/-- each new variable has its cell -/
theorem put_new {told : Int → Option Int} {T0 : Int} : ∀ (t : Tm) (b : Nat) (F : List (Int × Int)), ∀ p ∈ (putT told T0 b F t).2.2, p ∈ F ∨ ∃ (i : Nat) (d : SCell), (putT told T0 b F t).2.1[i]? = some d ∧ p.2 = ((b + i : Nat) : Int) ∧ d.k = 1 ∧ d.lk = -1 ∧ d.args = []
  | .mk k n s a, b, F => by
    by_cases k1 : k = 1
    · rw [putT_var (t := .mk k n s a) k1]
      simp only [Tm.n]
      cases told n with
      | some x => exact fun p hp => .inl hp
      | none =>
        cases h2 : mget F n with
        | some x => exact fun p hp => .inl hp
        | none =>
          intro p hp
          rcases List.mem_append.1 hp with hp | hp
          · exact .inl hp
          · simp only [List.mem_singleton] at hp
            subst hp
            exact .inr ⟨0, _, rfl, rfl, rfl, rfl, rfl⟩
    · by_cases k4 : k = 4
      · rw [putT_comp (t := .mk k n s a) k4]
        intro p hp
        rcases put_newL a (b + 1) F p hp with h | ⟨i, d, h1, h2, h3⟩
        · exact .inl h
        · exact .inr ⟨i + 1, d, by simpa [Tm.args] using h1, by rw [h2]; congr 1; omega, h3⟩
      · rw [putT_leaf (t := .mk k n s a) k1 k4]
        exact fun p hp => .inl hp
theorem put_newL {told : Int → Option Int} {T0 : Int} : ∀ (l : List Tm) (b : Nat) (F : List (Int × Int)), ∀ p ∈ (putL told T0 b F l).2.2, p ∈ F ∨ ∃ (i : Nat) (d : SCell), (putL told T0 b F l).2.1[i]? = some d ∧ p.2 = ((b + i : Nat) : Int) ∧ d.k = 1 ∧ d.lk = -1 ∧ d.args = []
  | [], b, F => by simp only [putL]; exact fun p hp => .inl hp
  | t :: l, b, F => by
    simp only [putL]
    intro p hp
    rcases put_newL l _ _ p hp with h | ⟨i, d, h1, h2, h3⟩
    · rcases put_new t b F p h with h | ⟨i, d, h1, h2⟩
      · exact .inl h
      · exact .inr ⟨i, d, by rw [List.getElem?_append_left (List.getElem?_eq_some_iff.1 h1).1]; exact h1, h2⟩
    · exact .inr ⟨(putT told T0 b F t).2.1.length + i, d, by rw [List.getElem?_append_right (by omega)]; simpa using h1, by rw [h2]; congr 1; omega, h3⟩
end
theorem may_n0 {t : Tm} (h : mayT t = true) (k : t.k = 4) : t.n = 0 := by
  obtain ⟨k', n, s, a⟩ := t
  simp only [Tm.k] at k
  subst k
  simp only [mayT, Bool.and_eq_true, mayB] at h
  simp at h
  simp only [Tm.n]
  omega
mutual
/-- what was put, is got: the variables as σ says -/
theorem put_tr {S : Sto} {told : Int → Option Int} {T0 : Int} {σ : Int → Tm} {G : List (Int × Int)} (hT : ∀ n a, told n = some a → Tr S (σ n) a.toNat) (hN : ∀ n v, told n = none → mget G n = some v → Tr S (σ n) v.toNat) :
    ∀ (t : Tm) (b : Nat) (F : List (Int × Int)), mayT t = true → AgreeAt S b (putT told T0 b F t).2.1 → (∀ n v, mget (putT told T0 b F t).2.2 n = some v → mget G n = some v) → Tr S (subT σ t) (putT told T0 b F t).1.toNat
  | .mk k n s a, b, F, hm, hA, hG => by
    by_cases k1 : k = 1
    · simp only [subT, if_pos k1]
      rw [putT_var (t := .mk k n s a) k1] at hG ⊢
      simp only [Tm.n] at hG ⊢
      cases h1 : told n with
      | some x => exact hT n x h1
      | none =>
        rw [h1] at hG
        cases h2 : mget F n with
        | some x =>
          rw [h2] at hG
          exact hN n x h1 (hG n x h2)
        | none =>
          rw [h2] at hG
          exact hN n b h1 (hG n b (mget_last h2))
    · simp only [subT, if_neg k1]
      by_cases k4 : k = 4
      · rw [putT_comp (t := .mk k n s a) k4] at hA hG ⊢
        obtain ⟨c, hc, e1, e2, e3, e4, e5⟩ := hA.head
        have hn : n = 0 := may_n0 hm k4
        subst hn
        have ef : fol S b = b := fol_root hc e5
        unfold Tr
        simp only [Int.toNat_natCast]
        rw [ef]
        refine ⟨c, hc, ?_, ?_⟩
        · unfold shellC
          rw [if_neg (by rw [e1]; show ¬ (4 : Int) = 1; decide), e1, e2, e3, k4]
          rfl
        · rw [e4]
          exact put_trL hT hN a (b + 1) F (may_args hm) hA.tail hG
      · rw [putT_leaf (t := .mk k n s a) k1 k4] at hA hG ⊢
        obtain ⟨c, hc, e1, e2, e3, e4, e5⟩ := hA.head
        have ha : a = [] := may_leaf hm k1 k4
        subst ha
        have ef : fol S b = b := fol_root hc e5
        simp only [subL]
        unfold Tr
        simp only [Int.toNat_natCast]
        rw [ef]
        refine ⟨c, hc, ?_, ?_⟩
        · unfold shellC
          rw [if_neg (by rw [e1]; exact k1), e1, e2, e3]
          rfl
        · rw [e4]
          exact trivial
theorem put_trL {S : Sto} {told : Int → Option Int} {T0 : Int} {σ : Int → Tm} {G : List (Int × Int)} (hT : ∀ n a, told n = some a → Tr S (σ n) a.toNat) (hN : ∀ n v, told n = none → mget G n = some v → Tr S (σ n) v.toNat) :
    ∀ (l : List Tm) (b : Nat) (F : List (Int × Int)), (∀ x ∈ l, mayT x = true) → AgreeAt S b (putL told T0 b F l).2.1 → (∀ n v, mget (putL told T0 b F l).2.2 n = some v → mget G n = some v) → TrL S (subL σ l) (putL told T0 b F l).1
  | [], b, F, hm, hA, hG => by simp only [putL, subL]; exact trivial
  | t :: l, b, F, hm, hA, hG => by
    simp only [putL] at hA hG
    simp only [putL, subL]
    refine ⟨put_tr hT hN t b F (hm t (by simp)) hA.left fun n v h => hG n v (put_extL l _ _ n v h), put_trL hT hN l _ _ (fun x hx => hm x (List.mem_cons_of_mem _ hx)) hA.right hG⟩
end
/-- the tree of what was put without told variables -/
def backT (S : Sto) (t : Tm) : Tm := subT (fun n => .mk 1 ((mget (putR S [] t).2.2 n).getD 0) ⟨#[]⟩ []) t
theorem backT_size (S : Sto) (t : Tm) : (backT S t).size ≤ t.size := subT_size (fun n => by simp [Tm.size, sizeL]) t
theorem put_tr0 {S S' : Sto} {t : Tm} (hm : mayT t = true) (hA : AgreeAt S' S.cells.length (putR S [] t).2.1) : Tr S' (backT S t) (putR S [] t).1.toNat := by
  refine put_tr (G := (putR S [] t).2.2) (fun n a h => by simp [mget] at h) (fun n v _ h => ?_) t _ _ hm hA (fun n v h => h)
  rcases put_new t S.cells.length [] (n, v) (mget_some h) with h1 | ⟨i, d, h1, h2, h3, h4, h5⟩
  · simp at h1
  obtain ⟨c, hc, e1, e2, e3, e4, e5⟩ := hA i d h1
  have hv : v.toNat = S.cells.length + i := by simp only at h2; omega
  have ef : fol S' v.toNat = v.toNat := by rw [hv]; exact fol_root hc (e5.trans h4)
  rw [h]
  unfold Tr
  rw [ef]
  refine ⟨c, by rw [hv]; exact hc, ?_, ?_⟩
  · unfold shellC
    rw [if_pos (e1.trans h3), hv]
    simp only at h2
    rw [Option.getD_some, h2]
  · rw [e4, h5]
    exact trivial
theorem fixTop_at : ∀ {T : Int} {l : List SCell} {i : Nat} {d : SCell}, l[i]? = some d → ∃ c, (fixTop T l)[i]? = some c ∧ CAgr c d
  | T, [], i, d, h => by simp at h
  | T, x :: l, 0, d, h => by
    simp only [List.getElem?_cons_zero, Option.some.injEq] at h
    subst h
    exact ⟨_, rfl, rfl, rfl, rfl, rfl, rfl⟩
  | T, x :: l, i + 1, d, h => by
    simp only [List.getElem?_cons_succ] at h
    obtain ⟨c, h1, h2⟩ := fixTop_at (T := maxA T x.args) h
    exact ⟨c, by simpa [fixTop] using h1, h2⟩
theorem agree_put (S : Sto) (t : Tm) : AgreeAt (putS S [] t) S.cells.length (putR S [] t).2.1 := fun i d h => by
  obtain ⟨c, h1, h2⟩ := fixTop_at (T := lastTop S.cells) h
  refine ⟨c, ?_, h2⟩
  show (S.cells ++ fixTop (lastTop S.cells) (putR S [] t).2.1)[S.cells.length + i]? = some c
  rw [List.getElem?_append_right (by omega)]
  simpa using h1
theorem AgreeAt.plus {S : Sto} {b : Nat} {l m : List SCell} (h : AgreeAt S b l) : AgreeAt (plusS S m) b l := fun i d hd => by
  obtain ⟨c, h1, h2⟩ := h i d hd
  refine ⟨c, ?_, h2⟩
  show (S.cells ++ m)[b + i]? = some c
  rw [List.getElem?_append_left (List.getElem?_eq_some_iff.1 h1).1]
  exact h1
/-- Get tells it -/
theorem get_of_tr {S : Sto} {t : Tm} {x : Nat} (h : Tr S t x) (hs : t.size ≤ 2000) : getG S 2000 x 0 = (t, 0, t.size) := by
  have := getG_tr S t x 2000 0 h (by have := hT_size t; omega) (by omega)
  rwa [Nat.zero_add] at this
theorem put_base (T0 : Int) (b : Nat) (t : Tm) : (putT (fun n => mget [] n) T0 b [] t).1 = b := by
  by_cases k1 : t.k = 1
  · rw [putT_var k1]; rfl
  · by_cases k4 : t.k = 4
    · rw [putT_comp k4]
    · rw [putT_leaf k1 k4]
theorem put_base' (S : Sto) (t : Tm) : (putR S [] t).1 = S.cells.length := put_base _ _ _
theorem put_some (S : Sto) (t : Tm) : 0 < (putR S [] t).2.1.length := by
  unfold putR
  by_cases k1 : t.k = 1
  · rw [putT_var k1]; simp [mget]
  · by_cases k4 : t.k = 4
    · rw [putT_comp k4]; simp
    · rw [putT_leaf k1 k4]; simp
mutual
theorem cnt_none {N : Nat} : ∀ (t : Tm) (c : Nat) (F : List (Int × Int)), (cntT (fun n => mget [] n) N c F t).1 = true
  | .mk k n s a, c, F => by
    by_cases k1 : k = 1
    · rw [cntT_var (t := .mk k n s a) k1]
      simp only [Tm.n, mget]
      cases mget F n <;> rfl
    · rw [cntT_not (t := .mk k n s a) k1]
      exact cnt_noneL a _ F
theorem cnt_noneL {N : Nat} : ∀ (l : List Tm) (c : Nat) (F : List (Int × Int)), (cntL (fun n => mget [] n) N c F l).1 = true
  | [], c, F => by rw [cntL_nil]
  | t :: l, c, F => by
    rw [cntL_pos (cnt_none t c F)]
    exact cnt_noneL l _ _
end
/-- the tops speak of cells that are there -/
theorem maxA_lt {n T : Int} {l : List Int} (h : T < n) (hl : ∀ a ∈ l, a < n) : maxA T l < n := by
  unfold maxA
  induction l generalizing T with
  | nil => exact h
  | cons a l ih =>
    rw [List.foldl_cons]
    exact ih (by have := hl a (by simp); omega) fun b hb => hl b (List.mem_cons_of_mem _ hb)
theorem fixTop_lt {n : Int} : ∀ {T : Int} {l : List SCell}, T < n → (∀ c ∈ l, ∀ a ∈ c.args, a < n) → ∀ c ∈ fixTop T l, c.top < n
  | T, [], h, hl, c, hc => by simp [fixTop] at hc
  | T, d :: l, h, hl, c, hc => by
    simp only [fixTop] at hc
    have hm := maxA_lt h (hl d (by simp))
    rcases List.mem_cons.1 hc with rfl | hc
    · exact hm
    · exact fixTop_lt hm (fun e he => hl e (List.mem_cons_of_mem _ he)) c hc
def TopOk (S : Sto) : Prop := ∀ c ∈ S.cells, c.top < S.cells.length
theorem lastTop_lt {l : List SCell} {n : Int} (h : ∀ c ∈ l, c.top < n) (h0 : -1 < n) : lastTop l < n := by
  unfold lastTop
  cases hl : l.getLast? with
  | none => exact h0
  | some c => exact h c (List.mem_of_getLast? hl)
theorem TopOk.put {S : Sto} (h : TopOk S) {M : List (Int × Int)} {t : Tm} (hp : MayPut S M t) : TopOk (putS S M t) := by
  have hl := putS_len S M t
  intro c hc
  rw [hl]
  rcases List.mem_append.1 hc with hc | hc
  · have := h c hc; omega
  · refine fixTop_lt (lastTop_lt (fun d hd => ?_) (by omega)) (fun d hd a ha => ?_) c hc
    · have := h d hd; omega
    · exact ((hp.ok.2.1 d hd).1.args a ha).2
end Go.Proofs.Ytoklbeogmcdgaaa.Tms
