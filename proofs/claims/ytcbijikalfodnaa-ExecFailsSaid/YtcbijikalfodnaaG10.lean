/-
  Layer 8's store, plain: what holds of every store that New made: cells, chains, bonds; what each step leaves of it.
  Layer 8's store, plain: Put: how many cells it takes, that the invariant stays, and what tree a cell is then.
  Layer 8's store, plain: what is put without told variables, is got: the same tree, its variables renamed; what it takes, where its root lies, its tops.
  goal.own walked over the program: what it returns reads as what it was given, its topmost Args in a row of the call's own.
  Layer 8's store, plain: the document's example; what is put without told variables is the same tree, its variables renamed.
  The law's first test: prolixlaw08.alive answers true.
  A reading without parts of kind 0 does not pass a zero row (a new variable); what is made good has none.
  A reading passes only blocks that are there. No condition.
  Layer 8 as its laws see it: a store of the law's own; what each step leaves of it, and of all that isn't its.
  StoreCuts, plain: two terms are put, a variable is bound, undone, cut.
  StoreBinds and StoreUndoes, plain: what following is once more is bound; a chain of variables; undoing gives back what was.
  Layer 8 as its laws see it: Put and Fresh, whatever they answer; Look.
  Layer 8's store: how high a cell is, plain; the getter's height, walked over the program.
  Layer 8's store: Get, whatever it answers.
  Terms that are put one behind the other with one map of variables: its entries in whatever order; what is got is small.
  Layer 21 (plain): what a code's pattern, put piece by piece into a store, comes to.
  Layer 21: a code that is run, in memory.
  The store: Put without a map of variables, whatever comes of it.
-/
import Derived.Test.YtcbijikalfodnaaG09
namespace Go.Proofs.Ytcbijikalfodnaa.Tms
open Go Go.RowKit Go.Proofs.Ytcbijikalfodnaa.Reg Go.Proofs.Ytcbijikalfodnaa.Rws Go.Proofs.Ytcbijikalfodnaa.Maps
set_option linter.unusedVariables false
set_option linter.unusedSimpArgs false

structure CellOk (n : Nat) (c : SCell) : Prop where
  len : c.args.length ≤ 255
  args : ∀ a ∈ c.args, 0 ≤ a ∧ a < n
  lk : c.lk = -1 ∨ (0 ≤ c.lk ∧ c.lk < n ∧ c.k = 1)
  var : c.k = 1 → c.args = []
structure Inv (S : Sto) : Prop where
  len : (S.cells.length : Int) ≤ S.room
  room : S.room ≤ 16777216
  cell : ∀ (x : Nat) (c : SCell), S.cells[x]? = some c → CellOk S.cells.length c
  rank : ∃ rk : Nat → Nat, ∀ (x : Nat) (c : SCell), S.cells[x]? = some c → ∀ y : Nat, c.lk = (y : Int) → rk y < rk x
  bond : ∀ b ∈ S.bonds, ∃ (v : Nat) (c : SCell), b.1 = (v : Int) ∧ S.cells[v]? = some c ∧ 0 ≤ c.lk
  nodup : (S.bonds.map (·.1)).Nodup
theorem nodup_len : ∀ (n : Nat) (l : List Nat), l.Nodup → (∀ x ∈ l, x < n) → l.length ≤ n
  | 0, l, _, h => by
    cases l with
    | nil => simp
    | cons a l => exact absurd (h a (by simp)) (by omega)
  | n + 1, l, hn, h => by
    have h1 := nodup_len n (l.filter fun x => decide (x < n)) (hn.sublist List.filter_sublist) (fun x hx => by simpa using (List.mem_filter.1 hx).2)
    have h2 : l.countP (fun x => !decide (x < n)) ≤ 1 := by
      have e : l.countP (fun x => !decide (x < n)) = l.count n := by
        unfold List.count
        apply List.countP_congr
        intro x hx
        have := h x hx
        simp
        omega
      rw [e]
      exact List.nodup_iff_count.1 hn n
    have h3 := List.length_eq_countP_add_countP (fun x => decide (x < n)) (l := l)
    rw [List.countP_eq_length_filter] at h3
    have h4 : l.countP (fun a => decide ¬(decide (a < n)) = true) = l.countP (fun x => !decide (x < n)) := by
      apply List.countP_congr; intro x _; simp
    omega
theorem Inv.small {S : Sto} (h : Inv S) : S.cells.length ≤ 16777216 := by have := h.len; have := h.room; omega
theorem Inv.room0 {S : Sto} (h : Inv S) : 0 ≤ S.room := by have := h.len; omega
theorem Inv.bsmall {S : Sto} (h : Inv S) : S.bonds.length ≤ S.cells.length := by
  have h1 := nodup_len S.cells.length (S.bonds.map fun b => b.1.toNat) ?_ ?_
  · simpa using h1
  · have e : (S.bonds.map fun b => b.1.toNat) = (S.bonds.map (·.1)).map Int.toNat := by simp
    rw [e]
    have hn := h.nodup
    rw [List.nodup_iff_pairwise_ne] at hn ⊢
    rw [List.pairwise_map]
    refine hn.imp_of_mem fun {a b} ha hb hab e => hab ?_
    obtain ⟨b1, hb1, rfl⟩ := List.mem_map.1 ha
    obtain ⟨b2, hb2, rfl⟩ := List.mem_map.1 hb
    obtain ⟨v1, -, e1, -⟩ := h.bond b1 hb1
    obtain ⟨v2, -, e2, -⟩ := h.bond b2 hb2
    rw [e1, e2] at e ⊢
    simp at e
    rw [e]
  · intro x hx
    obtain ⟨b, hb, rfl⟩ := List.mem_map.1 hx
    obtain ⟨v, c, e, hc, -⟩ := h.bond b hb
    rw [e]
    exact (List.getElem?_eq_some_iff.1 hc).1
theorem Inv.ch {S : Sto} (h : Inv S) : ∀ x, x < S.cells.length → ∃ f r, Ch S f x r := by
  obtain ⟨rk, hr⟩ := h.rank
  intro x
  generalize hn : rk x = n
  induction n using Nat.strongRecOn generalizing x with
  | _ n ih =>
    intro hx
    have hc := List.getElem?_eq_getElem hx
    rcases (h.cell x _ hc).lk with e | ⟨h0, h1, -⟩
    · exact ⟨0, x, hx, by rw [e]; decide, rfl⟩
    · obtain ⟨y, hy⟩ : ∃ y : Nat, S.cells[x].lk = (y : Int) := ⟨S.cells[x].lk.toNat, by omega⟩
      have hlt := hr x _ hc y hy
      rw [hn] at hlt
      obtain ⟨f, r, hf⟩ := ih (rk y) hlt y rfl (by omega)
      exact ⟨f + 1, r, hx, y, hy, hf⟩
theorem Inv.bnd {S : Sto} (h : Inv S) : ∀ b ∈ S.bonds, 0 ≤ b.1 ∧ b.1 < S.cells.length := fun b hb => by
  obtain ⟨v, c, e, hc, -⟩ := h.bond b hb
  have := (List.getElem?_eq_some_iff.1 hc).1
  omega
theorem Inv.stoOk {S : Sto} (h : Inv S) : StoOk S := ⟨by have := h.small; omega, by have := h.small; have := h.bsmall; omega, h.ch, h.bnd⟩
theorem Inv.bndOk {S : Sto} (h : Inv S) : BndOk S := ⟨by have := h.small; have := h.bsmall; omega, h.bnd⟩
theorem Inv.stoIn {S : Sto} (h : Inv S) : StoIn S := ⟨by have := h.small; omega, h.ch, fun c hc => by
  obtain ⟨x, hx, rfl⟩ := List.mem_iff_getElem.1 hc
  have := h.cell x _ (List.getElem?_eq_getElem hx)
  exact ⟨by have := this.len; omega, this.args⟩⟩
theorem Inv.folch {S : Sto} (h : Inv S) {x : Nat} (hx : x < S.cells.length) : ∃ f, Ch S f x (fol S x) := let ⟨f, h1, _⟩ := h.stoIn.fol hx; ⟨f, h1⟩
theorem Inv.fol_lt {S : Sto} (h : Inv S) {x : Nat} (hx : x < S.cells.length) : fol S x < S.cells.length := by obtain ⟨f, hc⟩ := h.folch hx; exact hc.end_.1
theorem Inv.fol_free {S : Sto} (h : Inv S) {x : Nat} (hx : x < S.cells.length) : (S.cells[fol S x]'(h.fol_lt hx)).lk = -1 := by
  obtain ⟨f, hc⟩ := h.folch hx
  obtain ⟨h1, h2⟩ := hc.end_
  rcases (h.cell _ _ (List.getElem?_eq_getElem h1)).lk with e | e
  · exact e
  · omega
theorem fol_root {S : Sto} {x : Nat} {c : SCell} (hc : S.cells[x]? = some c) (hl : c.lk = -1) : fol S x = x := by
  obtain ⟨hx, rfl⟩ := List.getElem?_eq_some_iff.1 hc
  exact fol_eq (f := 0) ⟨hx, by rw [hl]; decide, rfl⟩
theorem Inv.fol_fol {S : Sto} (h : Inv S) {x : Nat} (hx : x < S.cells.length) : Tms.fol S (Tms.fol S x) = Tms.fol S x := fol_root (List.getElem?_eq_getElem (h.fol_lt hx)) (h.fol_free hx)
theorem Inv.new (n : Int) (h : 0 ≤ n) (h2 : n ≤ 16777216) : Inv ⟨n, [], []⟩ := ⟨by simpa using h, h2, fun x c hc => by simp at hc, ⟨fun _ => 0, fun x c hc => by simp at hc⟩, by simp, by simp⟩
theorem CellOk.mono {n m : Nat} {c : SCell} (h : CellOk n c) (hm : n ≤ m) : CellOk m c := ⟨h.len, fun a ha => by have := h.args a ha; omega, h.lk.imp_right fun h => ⟨h.1, by omega, h.2.2⟩, h.var⟩
/-- new cells, none of them bound -/
theorem Inv.plus {S : Sto} (h : Inv S) (l : List SCell) (hl : ∀ c ∈ l, CellOk (S.cells.length + l.length) c ∧ c.lk = -1) (hr : ((S.cells.length + l.length : Nat) : Int) ≤ S.room) : Inv (plusS S l) := by
  obtain ⟨rk, hrk⟩ := h.rank
  have old : ∀ x c, (plusS S l).cells[x]? = some c → (S.cells[x]? = some c ∧ x < S.cells.length) ∨ c ∈ l := fun x c hc => by
    show _ ∨ _
    have hc : (S.cells ++ l)[x]? = some c := hc
    by_cases hx : x < S.cells.length
    · rw [List.getElem?_append_left hx] at hc; exact .inl ⟨hc, hx⟩
    · rw [List.getElem?_append_right (by omega)] at hc; exact .inr (List.mem_of_getElem? hc)
  refine ⟨by simpa [plusS] using hr, h.room, fun x c hc => ?_, ⟨rk, fun x c hc y hy => ?_⟩, fun b hb => ?_, h.nodup⟩
  · have e : (plusS S l).cells.length = S.cells.length + l.length := by simp [plusS]
    rw [e]
    rcases old x c hc with ⟨h1, -⟩ | h1
    · exact (h.cell x c h1).mono (by omega)
    · exact (hl c h1).1
  · rcases old x c hc with ⟨h1, -⟩ | h1
    · exact hrk x c h1 y hy
    · rw [(hl c h1).2] at hy; omega
  · obtain ⟨v, c, e, hc, h0⟩ := h.bond b hb
    refine ⟨v, c, e, ?_, h0⟩
    show (S.cells ++ l)[v]? = some c
    rw [List.getElem?_append_left (List.getElem?_eq_some_iff.1 hc).1]
    exact hc
theorem Inv.fresh {S : Sto} (h : Inv S) (hr : (S.cells.length : Int) < S.room) : Inv (freshS S) :=
  h.plus [⟨1, 0, ⟨#[]⟩, [], -1, lastTop S.cells⟩] (by
    intro c hc
    simp only [List.mem_singleton] at hc
    subst hc
    exact ⟨⟨by simp, by simp, .inl rfl, fun _ => rfl⟩, rfl⟩) (by simp; omega)
theorem bindS_cells {S : Sto} {v t : Nat} (hv : v < S.cells.length) : (bindS S v t).cells = S.cells.set v { S.cells[v] with lk := (t : Int) } := setTo_at hv
theorem loose_bind {S : Sto} {v t : Nat} (hv : v < S.cells.length) (hl : (S.cells[v]).lk = -1) : looseS (bindS S v t) = S := by
  have hb : (bindS S v t).bonds = S.bonds ++ [((v : Int), topB S.bonds (max v t))] := rfl
  rw [looseS_at hb]
  have hvl : v < (bindS S v t).cells.length := by rw [bindS_cells hv]; simpa using hv
  have e : setTo (bindS S v t) v (-1) = S.cells := by
    rw [setTo_at hvl]
    have hg : (bindS S v t).cells[v] = { S.cells[v] with lk := (t : Int) } := by
      have : (bindS S v t).cells[v]? = some { S.cells[v] with lk := (t : Int) } := by rw [bindS_cells hv]; simp [hv]
      rw [List.getElem?_eq_getElem hvl] at this
      exact Option.some.inj this
    rw [hg, bindS_cells hv, List.set_set]
    have : ({ ({ S.cells[v] with lk := (t : Int) } : SCell) with lk := -1 } : SCell) = S.cells[v] := by
      rw [← hl]
    rw [this, List.set_getElem_self]
  rw [e]
  rfl
theorem Inv.bind {S : Sto} (h : Inv S) {v t : Nat} (hv : v < S.cells.length) (ht : t < S.cells.length) (hvl : (S.cells[v]).lk = -1) (htl : (S.cells[t]).lk = -1) (hk : (S.cells[v]).k = 1) (hne : v ≠ t) : Inv (bindS S v t) := by
  obtain ⟨rk, hrk⟩ := h.rank
  have hc := bindS_cells (t := t) hv
  have hlen : (bindS S v t).cells.length = S.cells.length := by rw [hc]; simp
  have get : ∀ x c, (bindS S v t).cells[x]? = some c → (x ≠ v ∧ S.cells[x]? = some c) ∨ (x = v ∧ c = { S.cells[v] with lk := (t : Int) }) := fun x c h' => by
    rw [hc, List.getElem?_set] at h'
    by_cases e : v = x
    · subst e; rw [if_pos rfl, if_pos hv] at h'; exact .inr ⟨rfl, (Option.some.inj h').symm⟩
    · rw [if_neg e] at h'; exact .inl ⟨fun h => e h.symm, h'⟩
  refine ⟨by rw [hlen]; exact h.len, h.room, fun x c hx => ?_, ⟨fun y => if Tms.fol S y = v then rk y + (rk t + 1) else rk y, fun x c hx y hy => ?_⟩, fun b hb => ?_, ?_⟩
  · rw [hlen]
    rcases get x c hx with ⟨-, h1⟩ | ⟨rfl, rfl⟩
    · exact h.cell x c h1
    · have hcv := h.cell x _ (List.getElem?_eq_getElem hv)
      exact ⟨hcv.len, hcv.args, .inr ⟨by simp, by simp; exact ht, hk⟩, hcv.var⟩
  · rcases get x c hx with ⟨hxv, h1⟩ | ⟨rfl, rfl⟩
    · have hlt := hrk x c h1 y hy
      have hxl := (List.getElem?_eq_some_iff.1 h1).1
      have hyl : y < S.cells.length := by
        rcases (h.cell x c h1).lk with e | e
        · omega
        · omega
      have hf : Tms.fol S x = Tms.fol S y := by
        obtain ⟨f, hf⟩ := h.folch hyl
        exact fol_eq (f := f + 1) ⟨hxl, y, by rw [(List.getElem?_eq_some_iff.1 h1).2]; exact hy, hf⟩
      dsimp only
      rw [hf]
      split <;> omega
    · have e : y = t := by simp only [Int.ofNat_inj] at hy; exact hy.symm
      subst e
      have h1 : Tms.fol S x = x := fol_root (List.getElem?_eq_getElem hv) hvl
      have h2 : Tms.fol S y = y := fol_root (List.getElem?_eq_getElem ht) htl
      dsimp only
      rw [if_pos h1, h2, if_neg (fun e => hne e.symm)]
      omega
  · have hb : b ∈ S.bonds ++ [((v : Int), topB S.bonds (max v t))] := hb
    rcases List.mem_append.1 hb with hb | hb
    · obtain ⟨u, c, e, hcu, h0⟩ := h.bond b hb
      have huv : u ≠ v := fun e => by
        subst e
        rw [List.getElem?_eq_getElem hv] at hcu
        have := Option.some.inj hcu
        rw [← this, hvl] at h0
        omega
      refine ⟨u, c, e, ?_, h0⟩
      rw [hc, List.getElem?_set, if_neg fun e => huv e.symm]
      exact hcu
    · simp only [List.mem_singleton] at hb
      subst hb
      exact ⟨v, _, rfl, by rw [hc, List.getElem?_set, if_pos rfl, if_pos hv], by simp⟩
  · show ((S.bonds ++ [((v : Int), topB S.bonds (max v t))]).map (·.1)).Nodup
    rw [List.map_append]
    refine List.nodup_append.2 ⟨h.nodup, by simp, fun a ha b hb e => ?_⟩
    simp only [List.map_cons, List.map_nil, List.mem_singleton] at hb
    obtain ⟨p, hp, rfl⟩ := List.mem_map.1 ha
    obtain ⟨u, c, e1, hcu, h0⟩ := h.bond p hp
    have : u = v := by rw [e1, hb] at e; omega
    subst this
    rw [List.getElem?_eq_getElem hv] at hcu
    have := Option.some.inj hcu
    rw [← this, hvl] at h0
    omega
end Go.Proofs.Ytcbijikalfodnaa.Tms
namespace Go.Proofs.Ytcbijikalfodnaa.Tms
open Go Go.RowKit Go.Proofs.Ytcbijikalfodnaa.Reg Go.Proofs.Ytcbijikalfodnaa.Rws Go.Proofs.Ytcbijikalfodnaa.Maps
set_option linter.unusedVariables false
set_option linter.unusedSimpArgs false

mutual
/-- of all variables of a term -/
def VarsIn (Q : Int → Prop) : Tm → Prop
  | .mk k n _ a => (k = 1 → Q n) ∧ VarsInL Q a
def VarsInL (Q : Int → Prop) : List Tm → Prop
  | [] => True
  | t :: l => VarsIn Q t ∧ VarsInL Q l
end
theorem may_args {t : Tm} (h : mayT t = true) : ∀ x ∈ t.args, mayT x = true := fun x hx => may_arg h hx
theorem may_leaf {t : Tm} (h : mayT t = true) (h1 : t.k ≠ 1) (h4 : t.k ≠ 4) : t.args = [] := by
  obtain ⟨k, n, s, a⟩ := t
  simp only [Tm.k] at h1 h4
  have hk := may_kind h
  simp only [Tm.k] at hk
  simp only [mayT, Bool.and_eq_true, mayB] at h
  simp only [Tm.args]
  rcases hk with rfl | rfl | rfl | rfl
  · exact absurd rfl h1
  · simp at h; exact h.1.2
  · simp at h; exact h.1.2.2
  · exact absurd rfl h4
theorem may_len {t : Tm} (h : mayT t = true) : t.args.length ≤ 255 := by
  rcases may_kind h with k | k | k | k
  · rw [may_var h k]; simp
  · rw [may_leaf h (by omega) (by omega)]; simp
  · rw [may_leaf h (by omega) (by omega)]; simp
  · obtain ⟨k', n, s, a⟩ := t
    simp only [Tm.k] at k
    subst k
    simp only [mayT, Bool.and_eq_true, mayB] at h
    simp at h
    simp only [Tm.args]
    omega
mutual
theorem cnt_told {told : Int → Option Int} {N : Nat} : ∀ (t : Tm) (c : Nat) (F : List (Int × Int)), mayT t = true → (cntT told N c F t).1 = true → VarsIn (fun n => ∀ a, told n = some a → 0 ≤ a ∧ a < N) t
  | .mk k n s a, c, F, hm, h => by
    unfold VarsIn
    by_cases k1 : k = 1
    · rw [cntT_var (t := .mk k n s a) k1] at h
      have ha : a = [] := may_var hm k1
      subst ha
      refine ⟨fun _ b hb => ?_, trivial⟩
      simp only [Tm.n] at h
      rw [hb] at h
      simpa using h
    · rw [cntT_not (t := .mk k n s a) k1] at h
      exact ⟨fun e => absurd e k1, cnt_toldL a (c + 1) F (may_args hm) h⟩
theorem cnt_toldL {told : Int → Option Int} {N : Nat} : ∀ (l : List Tm) (c : Nat) (F : List (Int × Int)), (∀ x ∈ l, mayT x = true) → (cntL told N c F l).1 = true → VarsInL (fun n => ∀ a, told n = some a → 0 ≤ a ∧ a < N) l
  | [], c, F, hm, h => trivial
  | t :: l, c, F, hm, h => by
    unfold VarsInL
    by_cases hx : (cntT told N c F t).1 = true
    · rw [cntL_pos hx] at h
      exact ⟨cnt_told t c F (hm t (by simp)) hx, cnt_toldL l _ _ (fun x hx => hm x (List.mem_cons_of_mem _ hx)) h⟩
    · rw [cntL_neg hx] at h
      exact absurd h hx
end
theorem mget_some {l : List (Int × Int)} {n v : Int} (h : mget l n = some v) : (n, v) ∈ l := by
  induction l with
  | nil => simp [mget] at h
  | cons p l ih =>
    simp only [mget] at h
    split at h
    · rename_i e
      obtain rfl := Option.some.inj h
      rw [e]; simp
    · exact List.mem_cons_of_mem _ (ih h)
theorem mget_keys {F G : List (Int × Int)} (h : F.map (·.1) = G.map (·.1)) (n : Int) : mget F n = none ↔ mget G n = none := by
  rw [mget_none, mget_none]
  have e : ∀ L : List (Int × Int), (∀ p ∈ L, p.1 ≠ n) ↔ n ∉ L.map (·.1) := fun L => by
    simp only [List.mem_map, not_exists, not_and]
  rw [e, e, h]
mutual
theorem cnt_put {told : Int → Option Int} {N : Nat} (T0 : Int) : ∀ (t : Tm) (c b : Nat) (F G : List (Int × Int)), mayT t = true → F.map (·.1) = G.map (·.1) → (cntT told N c F t).1 = true →
    (cntT told N c F t).2.1 = c + (putT told T0 b G t).2.1.length ∧ (cntT told N c F t).2.2.map (·.1) = (putT told T0 b G t).2.2.map (·.1)
  | .mk k n s a, c, b, F, G, hm, hk, h => by
    by_cases k1 : k = 1
    · rw [cntT_var (t := .mk k n s a) k1, putT_var (t := .mk k n s a) k1]
      simp only [Tm.n]
      cases h1 : told n with
      | some x => exact ⟨rfl, hk⟩
      | none =>
        cases h2 : mget F n with
        | some x =>
          cases h3 : mget G n with
          | some y => exact ⟨rfl, hk⟩
          | none => rw [(mget_keys hk n).2 h3] at h2; cases h2
        | none =>
          rw [(mget_keys hk n).1 h2]
          exact ⟨rfl, by simp [hk]⟩
    · rw [cntT_not (t := .mk k n s a) k1] at h ⊢
      by_cases k4 : k = 4
      · rw [putT_comp (t := .mk k n s a) k4]
        obtain ⟨e1, e2⟩ := cnt_putL T0 a (c + 1) (b + 1) F G (may_args hm) hk h
        refine ⟨?_, e2⟩
        simp only [Tm.args, List.length_cons]
        rw [e1]
        omega
      · rw [putT_leaf (t := .mk k n s a) k1 k4]
        have ha : a = [] := may_leaf hm k1 k4
        subst ha
        simp only [Tm.args]
        rw [cntL_nil]
        exact ⟨rfl, hk⟩
theorem cnt_putL {told : Int → Option Int} {N : Nat} (T0 : Int) : ∀ (l : List Tm) (c b : Nat) (F G : List (Int × Int)), (∀ x ∈ l, mayT x = true) → F.map (·.1) = G.map (·.1) → (cntL told N c F l).1 = true →
    (cntL told N c F l).2.1 = c + (putL told T0 b G l).2.1.length ∧ (cntL told N c F l).2.2.map (·.1) = (putL told T0 b G l).2.2.map (·.1)
  | [], c, b, F, G, hm, hk, h => by rw [cntL_nil]; simpa [putL] using hk
  | t :: l, c, b, F, G, hm, hk, h => by
    by_cases hx : (cntT told N c F t).1 = true
    · rw [cntL_pos hx] at h ⊢
      obtain ⟨e1, e2⟩ := cnt_put T0 t c b F G (hm t (by simp)) hk hx
      obtain ⟨e3, e4⟩ := cnt_putL T0 l _ (b + (putT told T0 b G t).2.1.length) _ (putT told T0 b G t).2.2 (fun x hx => hm x (List.mem_cons_of_mem _ hx)) e2 h
      simp only [putL, List.length_append]
      exact ⟨by omega, e4⟩
    · rw [cntL_neg hx] at h
      exact absurd h hx
end
/-- the new cells are as they may be -/
def FOk (b : Nat) (F : List (Int × Int)) : Prop := ∀ p ∈ F, 0 ≤ p.2 ∧ p.2 < b
mutual
theorem putT_ok {told : Int → Option Int} {T0 : Int} {b0 : Nat} : ∀ (t : Tm) (b : Nat) (F : List (Int × Int)), mayT t = true → VarsIn (fun n => ∀ a, told n = some a → 0 ≤ a ∧ a < b0) t → b0 ≤ b → FOk b F →
    (0 ≤ (putT told T0 b F t).1 ∧ (putT told T0 b F t).1 < ((b + (putT told T0 b F t).2.1.length : Nat) : Int)) ∧ (∀ c ∈ (putT told T0 b F t).2.1, CellOk (b + (putT told T0 b F t).2.1.length) c ∧ c.lk = -1) ∧ FOk (b + (putT told T0 b F t).2.1.length) (putT told T0 b F t).2.2
  | .mk k n s a, b, F, hm, hv, hb, hF => by
    unfold VarsIn at hv
    by_cases k1 : k = 1
    · rw [putT_var (t := .mk k n s a) k1]
      simp only [Tm.n]
      cases h1 : told n with
      | some x =>
        have := hv.1 k1 x h1
        exact ⟨by simp; omega, by simp, by simpa using hF⟩
      | none =>
        cases h2 : mget F n with
        | some x =>
          have := hF _ (mget_some h2)
          exact ⟨by simpa using this, by simp, by simpa using hF⟩
        | none =>
          refine ⟨by simp; omega, fun c hc => ?_, fun p hp => ?_⟩
          · simp only [List.mem_singleton] at hc
            subst hc
            exact ⟨⟨by simp, by simp, .inl rfl, fun _ => rfl⟩, rfl⟩
          · rcases List.mem_append.1 hp with hp | hp
            · have := hF p hp; simp; omega
            · simp only [List.mem_singleton] at hp; subst hp; simp; omega
    · by_cases k4 : k = 4
      · rw [putT_comp (t := .mk k n s a) k4]
        obtain ⟨h1, h2, h3⟩ := putL_ok (told := told) (T0 := T0) a (b + 1) F (may_args hm) hv.2 (by omega) (fun p hp => by have := hF p hp; omega)
        have hl := putL_len1 told T0 a (b + 1) F
        have hl2 : a.length ≤ 255 := may_len hm
        have e : b + ((putL told T0 (b + 1) F a).2.1.length + 1) = b + 1 + (putL told T0 (b + 1) F a).2.1.length := by omega
        simp only [List.length_cons, Tm.args, Tm.s]
        rw [e]
        refine ⟨by omega, fun c hc => ?_, h3⟩
        rcases List.mem_cons.1 hc with rfl | hc
        · exact ⟨⟨by show (putL told T0 (b + 1) F a).1.length ≤ 255; omega, h1, .inl rfl, fun e => absurd (show (4 : Int) = 1 from e) (by decide)⟩, rfl⟩
        · exact h2 c hc
      · rw [putT_leaf (t := .mk k n s a) k1 k4]
        refine ⟨by simp; omega, fun c hc => ?_, fun p hp => by have := hF p hp; simp; omega⟩
        simp only [List.mem_singleton] at hc
        subst hc
        exact ⟨⟨by simp, by simp, .inl rfl, fun _ => rfl⟩, rfl⟩
theorem putL_ok {told : Int → Option Int} {T0 : Int} {b0 : Nat} : ∀ (l : List Tm) (b : Nat) (F : List (Int × Int)), (∀ x ∈ l, mayT x = true) → VarsInL (fun n => ∀ a, told n = some a → 0 ≤ a ∧ a < b0) l → b0 ≤ b → FOk b F →
    (∀ a ∈ (putL told T0 b F l).1, 0 ≤ a ∧ a < ((b + (putL told T0 b F l).2.1.length : Nat) : Int)) ∧ (∀ c ∈ (putL told T0 b F l).2.1, CellOk (b + (putL told T0 b F l).2.1.length) c ∧ c.lk = -1) ∧ FOk (b + (putL told T0 b F l).2.1.length) (putL told T0 b F l).2.2
  | [], b, F, hm, hv, hb, hF => by simpa [putL] using hF
  | t :: l, b, F, hm, hv, hb, hF => by
    unfold VarsInL at hv
    obtain ⟨h1, h2, h3⟩ := putT_ok (told := told) (T0 := T0) t b F (hm t (by simp)) hv.1 hb hF
    obtain ⟨g1, g2, g3⟩ := putL_ok (told := told) (T0 := T0) l (b + (putT told T0 b F t).2.1.length) (putT told T0 b F t).2.2 (fun x hx => hm x (List.mem_cons_of_mem _ hx)) hv.2 (by omega) h3
    simp only [putL, List.length_append]
    have e : b + ((putT told T0 b F t).2.1.length + (putL told T0 (b + (putT told T0 b F t).2.1.length) (putT told T0 b F t).2.2 l).2.1.length) = b + (putT told T0 b F t).2.1.length + (putL told T0 (b + (putT told T0 b F t).2.1.length) (putT told T0 b F t).2.2 l).2.1.length := by omega
    rw [e]
    refine ⟨fun a ha => ?_, fun c hc => ?_, g3⟩
    · rcases List.mem_cons.1 ha with rfl | ha
      · omega
      · exact g1 a ha
    · rcases List.mem_append.1 hc with hc | hc
      · exact ⟨(h2 c hc).1.mono (by omega), (h2 c hc).2⟩
      · exact g2 c hc
end
theorem fixTop_mem : ∀ {T : Int} {l : List SCell} {c : SCell}, c ∈ fixTop T l → ∃ d ∈ l, c.k = d.k ∧ c.n = d.n ∧ c.s = d.s ∧ c.args = d.args ∧ c.lk = d.lk
  | T, [], c, h => by simp [fixTop] at h
  | T, d :: l, c, h => by
    simp only [fixTop] at h
    rcases List.mem_cons.1 h with rfl | h
    · exact ⟨d, by simp, rfl, rfl, rfl, rfl, rfl⟩
    · obtain ⟨e, he, hh⟩ := fixTop_mem h
      exact ⟨e, List.mem_cons_of_mem _ he, hh⟩
theorem CellOk.top {n : Nat} {c d : SCell} (h : CellOk n d) (e : c.k = d.k ∧ c.n = d.n ∧ c.s = d.s ∧ c.args = d.args ∧ c.lk = d.lk) : CellOk n c := by
  obtain ⟨e1, e2, e3, e4, e5⟩ := e
  exact ⟨by rw [e4]; exact h.len, by rw [e4]; exact h.args, by rw [e5, e1]; exact h.lk, by rw [e1, e4]; exact h.var⟩
/-- what Put may do -/
structure MayPut (S : Sto) (M : List (Int × Int)) (t : Tm) : Prop where
  chk : checkT t = 0
  cnt : (cntT (fun n => mget M n) S.cells.length 0 [] t).1 = true
  fit : ((cntT (fun n => mget M n) S.cells.length 0 [] t).2.1 : Int) ≤ S.room - S.cells.length
theorem MayPut.len {S : Sto} {M : List (Int × Int)} {t : Tm} (h : MayPut S M t) : (((putR S M t).2.1.length : Nat) : Int) ≤ S.room - S.cells.length := by
  have := (cnt_put (lastTop S.cells) t 0 S.cells.length [] [] (check_may h.chk) rfl h.cnt).1
  have h2 := h.fit
  unfold putR
  omega
theorem MayPut.ok {S : Sto} {M : List (Int × Int)} {t : Tm} (h : MayPut S M t) : (0 ≤ (putR S M t).1 ∧ (putR S M t).1 < ((S.cells.length + (putR S M t).2.1.length : Nat) : Int)) ∧ (∀ c ∈ (putR S M t).2.1, CellOk (S.cells.length + (putR S M t).2.1.length) c ∧ c.lk = -1) ∧ FOk (S.cells.length + (putR S M t).2.1.length) (putR S M t).2.2 :=
  putT_ok t S.cells.length [] (check_may h.chk) (cnt_told t 0 [] (check_may h.chk) h.cnt) (Nat.le_refl _) (by intro p hp; simp at hp)
theorem Inv.put {S : Sto} (hI : Inv S) {M : List (Int × Int)} {t : Tm} (h : MayPut S M t) : Inv (putS S M t) := by
  have hl := h.len
  have ho := h.ok
  unfold putS
  refine hI.plus _ (fun c hc => ?_) (by rw [fixTop_len]; omega)
  rw [fixTop_len]
  obtain ⟨d, hd, he⟩ := fixTop_mem hc
  have := ho.2.1 d hd
  exact ⟨this.1.top he, by rw [he.2.2.2.2]; exact this.2⟩
theorem putS_len (S : Sto) (M : List (Int × Int)) (t : Tm) : (putS S M t).cells.length = S.cells.length + (putR S M t).2.1.length := by simp [putS, plusS, fixTop_len]
end Go.Proofs.Ytcbijikalfodnaa.Tms
namespace Go.Proofs.Ytcbijikalfodnaa.Tms
open Go Go.RowKit Go.Proofs.Ytcbijikalfodnaa.Reg Go.Proofs.Ytcbijikalfodnaa.Rws Go.Proofs.Ytcbijikalfodnaa.Maps
set_option linter.unusedVariables false
set_option linter.unusedSimpArgs false

mutual
def subT (σ : Int → Tm) : Tm → Tm
  | .mk k n s a => if k = 1 then σ n else .mk k n s (subL σ a)
def subL (σ : Int → Tm) : List Tm → List Tm
  | [] => []
  | t :: l => subT σ t :: subL σ l
end
mutual
theorem subT_size {σ : Int → Tm} (h : ∀ n, (σ n).size = 1) : ∀ t : Tm, (subT σ t).size ≤ t.size
  | .mk k n s a => by
    simp only [subT]
    split
    · rw [h]; exact size_pos _
    · have := subL_size h a; simp only [Tm.size]; omega
theorem subL_size {σ : Int → Tm} (h : ∀ n, (σ n).size = 1) : ∀ l : List Tm, sizeL (subL σ l) ≤ sizeL l
  | [] => by simp [subL]
  | t :: l => by have := subT_size h t; have := subL_size h l; simp only [subL, sizeL]; omega
end
/-- the same but for the top -/
def CAgr (c d : SCell) : Prop := c.k = d.k ∧ c.n = d.n ∧ c.s = d.s ∧ c.args = d.args ∧ c.lk = d.lk
def AgreeAt (S : Sto) (b : Nat) (l : List SCell) : Prop := ∀ (i : Nat) (d : SCell), l[i]? = some d → ∃ c, S.cells[b + i]? = some c ∧ CAgr c d
theorem AgreeAt.head {S : Sto} {b : Nat} {d : SCell} {l : List SCell} (h : AgreeAt S b (d :: l)) : ∃ c, S.cells[b]? = some c ∧ CAgr c d := h 0 d rfl
theorem AgreeAt.tail {S : Sto} {b : Nat} {d : SCell} {l : List SCell} (h : AgreeAt S b (d :: l)) : AgreeAt S (b + 1) l := fun i e he => by
  have := h (i + 1) e (by simpa using he)
  rwa [show b + (i + 1) = b + 1 + i by omega] at this
theorem AgreeAt.left {S : Sto} {b : Nat} {l m : List SCell} (h : AgreeAt S b (l ++ m)) : AgreeAt S b l := fun i e he =>
  h i e (by rw [List.getElem?_append_left (List.getElem?_eq_some_iff.1 he).1]; exact he)
theorem AgreeAt.right {S : Sto} {b : Nat} {l m : List SCell} (h : AgreeAt S b (l ++ m)) : AgreeAt S (b + l.length) m := fun i e he => by
  have := h (l.length + i) e (by rw [List.getElem?_append_right (by omega)]; simpa using he)
  rwa [show b + (l.length + i) = b + l.length + i by omega] at this
theorem mget_snoc {n b : Int} : ∀ {F : List (Int × Int)} {m v : Int}, mget F m = some v → mget (F ++ [(n, b)]) m = some v
  | [], m, v, h => by simp [mget] at h
  | p :: F, m, v, h => by
    simp only [List.cons_append, mget] at h ⊢
    split
    · rename_i e; rw [if_pos e] at h; exact h
    · rename_i e; rw [if_neg e] at h; exact mget_snoc h
theorem mget_last {n b : Int} : ∀ {F : List (Int × Int)}, mget F n = none → mget (F ++ [(n, b)]) n = some b
  | [], h => by simp [mget]
  | p :: F, h => by
    simp only [List.cons_append, mget] at h ⊢
    split
    · rename_i e; rw [if_pos e] at h; cases h
    · rename_i e; rw [if_neg e] at h; exact mget_last h
mutual
theorem put_ext {told : Int → Option Int} {T0 : Int} : ∀ (t : Tm) (b : Nat) (F : List (Int × Int)) (m v : Int), mget F m = some v → mget (putT told T0 b F t).2.2 m = some v
  | .mk k n s a, b, F, m, v, h => by
    by_cases k1 : k = 1
    · rw [putT_var (t := .mk k n s a) k1]
      simp only [Tm.n]
      cases told n with
      | some x => exact h
      | none =>
        cases h2 : mget F n with
        | some x => exact h
        | none => exact mget_snoc h
    · by_cases k4 : k = 4
      · rw [putT_comp (t := .mk k n s a) k4]
        exact put_extL a (b + 1) F m v h
      · rw [putT_leaf (t := .mk k n s a) k1 k4]
        exact h
theorem put_extL {told : Int → Option Int} {T0 : Int} : ∀ (l : List Tm) (b : Nat) (F : List (Int × Int)) (m v : Int), mget F m = some v → mget (putL told T0 b F l).2.2 m = some v
  | [], b, F, m, v, h => by simpa [putL] using h
  | t :: l, b, F, m, v, h => by
    simp only [putL]
    exact put_extL l _ _ m v (put_ext t b F m v h)
end
mutual
/-- each new variable has its cell -/
theorem put_new {told : Int → Option Int} {T0 : Int} : ∀ (t : Tm) (b : Nat) (F : List (Int × Int)), ∀ p ∈ (putT told T0 b F t).2.2, p ∈ F ∨ ∃ (i : Nat) (d : SCell), (putT told T0 b F t).2.1[i]? = some d ∧ p.2 = ((b + i : Nat) : Int) ∧ d.k = 1 ∧ d.lk = -1 ∧ d.args = []
  | .mk k n s a, b, F => by
    by_cases k1 : k = 1
    · rw [putT_var (t := .mk k n s a) k1]
      simp only [Tm.n]
      cases told n with
      | some x => exact fun p hp => .inl hp
      | none =>
        cases h2 : mget F n with
        | some x => exact fun p hp => .inl hp
        | none =>
          intro p hp
          rcases List.mem_append.1 hp with hp | hp
          · exact .inl hp
          · simp only [List.mem_singleton] at hp
            subst hp
            exact .inr ⟨0, _, rfl, rfl, rfl, rfl, rfl⟩
    · by_cases k4 : k = 4
      · rw [putT_comp (t := .mk k n s a) k4]
        intro p hp
        rcases put_newL a (b + 1) F p hp with h | ⟨i, d, h1, h2, h3⟩
        · exact .inl h
        · exact .inr ⟨i + 1, d, by simpa [Tm.args] using h1, by rw [h2]; congr 1; omega, h3⟩
      · rw [putT_leaf (t := .mk k n s a) k1 k4]
        exact fun p hp => .inl hp
theorem put_newL {told : Int → Option Int} {T0 : Int} : ∀ (l : List Tm) (b : Nat) (F : List (Int × Int)), ∀ p ∈ (putL told T0 b F l).2.2, p ∈ F ∨ ∃ (i : Nat) (d : SCell), (putL told T0 b F l).2.1[i]? = some d ∧ p.2 = ((b + i : Nat) : Int) ∧ d.k = 1 ∧ d.lk = -1 ∧ d.args = []
  | [], b, F => by simp only [putL]; exact fun p hp => .inl hp
  | t :: l, b, F => by
    simp only [putL]
    intro p hp
    rcases put_newL l _ _ p hp with h | ⟨i, d, h1, h2, h3⟩
    · rcases put_new t b F p h with h | ⟨i, d, h1, h2⟩
      · exact .inl h
      · exact .inr ⟨i, d, by rw [List.getElem?_append_left (List.getElem?_eq_some_iff.1 h1).1]; exact h1, h2⟩
    · exact .inr ⟨(putT told T0 b F t).2.1.length + i, d, by rw [List.getElem?_append_right (by omega)]; simpa using h1, by rw [h2]; congr 1; omega, h3⟩
end
theorem may_n0 {t : Tm} (h : mayT t = true) (k : t.k = 4) : t.n = 0 := by
  obtain ⟨k', n, s, a⟩ := t
  simp only [Tm.k] at k
  subst k
  simp only [mayT, Bool.and_eq_true, mayB] at h
  simp at h
  simp only [Tm.n]
  omega
mutual
/-- what was put, is got: the variables as σ says -/
theorem put_tr {S : Sto} {told : Int → Option Int} {T0 : Int} {σ : Int → Tm} {G : List (Int × Int)} (hT : ∀ n a, told n = some a → Tr S (σ n) a.toNat) (hN : ∀ n v, told n = none → mget G n = some v → Tr S (σ n) v.toNat) :
    ∀ (t : Tm) (b : Nat) (F : List (Int × Int)), mayT t = true → AgreeAt S b (putT told T0 b F t).2.1 → (∀ n v, mget (putT told T0 b F t).2.2 n = some v → mget G n = some v) → Tr S (subT σ t) (putT told T0 b F t).1.toNat
  | .mk k n s a, b, F, hm, hA, hG => by
    by_cases k1 : k = 1
    · simp only [subT, if_pos k1]
      rw [putT_var (t := .mk k n s a) k1] at hG ⊢
      simp only [Tm.n] at hG ⊢
      cases h1 : told n with
      | some x => exact hT n x h1
      | none =>
        rw [h1] at hG
        cases h2 : mget F n with
        | some x =>
          rw [h2] at hG
          exact hN n x h1 (hG n x h2)
        | none =>
          rw [h2] at hG
          exact hN n b h1 (hG n b (mget_last h2))
    · simp only [subT, if_neg k1]
      by_cases k4 : k = 4
      · rw [putT_comp (t := .mk k n s a) k4] at hA hG ⊢
        obtain ⟨c, hc, e1, e2, e3, e4, e5⟩ := hA.head
        have hn : n = 0 := may_n0 hm k4
        subst hn
        have ef : fol S b = b := fol_root hc e5
        unfold Tr
        simp only [Int.toNat_natCast]
        rw [ef]
        refine ⟨c, hc, ?_, ?_⟩
        · unfold shellC
          rw [if_neg (by rw [e1]; show ¬ (4 : Int) = 1; decide), e1, e2, e3, k4]
          rfl
        · rw [e4]
          exact put_trL hT hN a (b + 1) F (may_args hm) hA.tail hG
      · rw [putT_leaf (t := .mk k n s a) k1 k4] at hA hG ⊢
        obtain ⟨c, hc, e1, e2, e3, e4, e5⟩ := hA.head
        have ha : a = [] := may_leaf hm k1 k4
        subst ha
        have ef : fol S b = b := fol_root hc e5
        simp only [subL]
        unfold Tr
        simp only [Int.toNat_natCast]
        rw [ef]
        refine ⟨c, hc, ?_, ?_⟩
        · unfold shellC
          rw [if_neg (by rw [e1]; exact k1), e1, e2, e3]
          rfl
        · rw [e4]
          exact trivial
theorem put_trL {S : Sto} {told : Int → Option Int} {T0 : Int} {σ : Int → Tm} {G : List (Int × Int)} (hT : ∀ n a, told n = some a → Tr S (σ n) a.toNat) (hN : ∀ n v, told n = none → mget G n = some v → Tr S (σ n) v.toNat) :
    ∀ (l : List Tm) (b : Nat) (F : List (Int × Int)), (∀ x ∈ l, mayT x = true) → AgreeAt S b (putL told T0 b F l).2.1 → (∀ n v, mget (putL told T0 b F l).2.2 n = some v → mget G n = some v) → TrL S (subL σ l) (putL told T0 b F l).1
  | [], b, F, hm, hA, hG => by simp only [putL, subL]; exact trivial
  | t :: l, b, F, hm, hA, hG => by
    simp only [putL] at hA hG
    simp only [putL, subL]
    refine ⟨put_tr hT hN t b F (hm t (by simp)) hA.left fun n v h => hG n v (put_extL l _ _ n v h), put_trL hT hN l _ _ (fun x hx => hm x (List.mem_cons_of_mem _ hx)) hA.right hG⟩
end
/-- the tree of what was put without told variables -/
def backT (S : Sto) (t : Tm) : Tm := subT (fun n => .mk 1 ((mget (putR S [] t).2.2 n).getD 0) ⟨#[]⟩ []) t
theorem AgreeAt.plus {S : Sto} {b : Nat} {l m : List SCell} (h : AgreeAt S b l) : AgreeAt (plusS S m) b l := fun i d hd => by
  obtain ⟨c, h1, h2⟩ := h i d hd
  refine ⟨c, ?_, h2⟩
  show (S.cells ++ m)[b + i]? = some c
  rw [List.getElem?_append_left (List.getElem?_eq_some_iff.1 h1).1]
  exact h1
/-- Get tells it -/
theorem get_of_tr {S : Sto} {t : Tm} {x : Nat} (h : Tr S t x) (hs : t.size ≤ 2000) : getG S 2000 x 0 = (t, 0, t.size) := by
  have := getG_tr S t x 2000 0 h (by have := hT_size t; omega) (by omega)
  rwa [Nat.zero_add] at this
mutual
theorem cnt_none {N : Nat} : ∀ (t : Tm) (c : Nat) (F : List (Int × Int)), (cntT (fun n => mget [] n) N c F t).1 = true
  | .mk k n s a, c, F => by
    by_cases k1 : k = 1
    · rw [cntT_var (t := .mk k n s a) k1]
      simp only [Tm.n, mget]
      cases mget F n <;> rfl
    · rw [cntT_not (t := .mk k n s a) k1]
      exact cnt_noneL a _ F
theorem cnt_noneL {N : Nat} : ∀ (l : List Tm) (c : Nat) (F : List (Int × Int)), (cntL (fun n => mget [] n) N c F l).1 = true
  | [], c, F => by rw [cntL_nil]
  | t :: l, c, F => by
    rw [cntL_pos (cnt_none t c F)]
    exact cnt_noneL l _ _
end
/-- the tops speak of cells that are there -/
theorem maxA_lt {n T : Int} {l : List Int} (h : T < n) (hl : ∀ a ∈ l, a < n) : maxA T l < n := by
  unfold maxA
  induction l generalizing T with
  | nil => exact h
  | cons a l ih =>
    rw [List.foldl_cons]
    exact ih (by have := hl a (by simp); omega) fun b hb => hl b (List.mem_cons_of_mem _ hb)
theorem fixTop_lt {n : Int} : ∀ {T : Int} {l : List SCell}, T < n → (∀ c ∈ l, ∀ a ∈ c.args, a < n) → ∀ c ∈ fixTop T l, c.top < n
  | T, [], h, hl, c, hc => by simp [fixTop] at hc
  | T, d :: l, h, hl, c, hc => by
    simp only [fixTop] at hc
    have hm := maxA_lt h (hl d (by simp))
    rcases List.mem_cons.1 hc with rfl | hc
    · exact hm
    · exact fixTop_lt hm (fun e he => hl e (List.mem_cons_of_mem _ he)) c hc
def TopOk (S : Sto) : Prop := ∀ c ∈ S.cells, c.top < S.cells.length
theorem lastTop_lt {l : List SCell} {n : Int} (h : ∀ c ∈ l, c.top < n) (h0 : -1 < n) : lastTop l < n := by
  unfold lastTop
  cases hl : l.getLast? with
  | none => exact h0
  | some c => exact h c (List.mem_of_getLast? hl)
theorem TopOk.put {S : Sto} (h : TopOk S) {M : List (Int × Int)} {t : Tm} (hp : MayPut S M t) : TopOk (putS S M t) := by
  have hl := putS_len S M t
  intro c hc
  rw [hl]
  rcases List.mem_append.1 hc with hc | hc
  · have := h c hc; omega
  · refine fixTop_lt (lastTop_lt (fun d hd => ?_) (by omega)) (fun d hd a ha => ?_) c hc
    · have := h d hd; omega
    · exact ((hp.ok.2.1 d hd).1.args a ha).2
end Go.Proofs.Ytcbijikalfodnaa.Tms
namespace Go.Proofs.Ytcbijikalfodnaa.Tms
open Go Go.RowKit Go.Proofs.Ytcbijikalfodnaa.Reg
set_option linter.unusedVariables false

/-- the topmost Args lie in a row of the call's own -/
def TopOwn (B : Nat) (t : Tm) (S : Nat → Prop) (wr : World) : Prop := ∃ a c, wr.cell? ⟨B, 3, none⟩ = some (.slice a t.args.length c) ∧ (t.args ≠ [] → ∃ g, a = some ⟨g, 0, none⟩ ∧ S g)
def Top (B : Nat) (t : Tm) (S : Nat → Prop) (l : List (Nat × Nat × Tm)) (wr : World) : Prop := l = [(B, 0, t)] ∨ TopOwn B t S wr
theorem Top.pop {B : Nat} {t : Tm} {S : Nat → Prop} {l : List (Nat × Nat × Tm)} {x : Nat × Nat × Tm} {wr : World} (h : Top B t S (l ++ [x]) wr) : x = (B, 0, t) ∨ TopOwn B t S wr := by
  rcases h with h | h
  · left
    cases l with
    | nil => simpa using h
    | cons y l => simp at h
  · exact .inr h
end Go.Proofs.Ytcbijikalfodnaa.Tms
namespace Go.Proofs.Ytcbijikalfodnaa.Tms
open Go Go.RowKit Go.Proofs.Ytcbijikalfodnaa.Reg Go.Proofs.Ytcbijikalfodnaa.Rws Go.Proofs.Ytcbijikalfodnaa.Maps
set_option linter.unusedVariables false
set_option linter.unusedSimpArgs false

/-! ### The document's example -/
end Go.Proofs.Ytcbijikalfodnaa.Tms
namespace Go.Proofs.Ytcbijikalfodnaa.Tms
open Go Go.RowKit Go.Proofs.Ytcbijikalfodnaa.Reg Go.Proofs.Ytcbijikalfodnaa.Rws Go.Proofs.Ytcbijikalfodnaa.Maps
set_option linter.unusedVariables false
set_option linter.unusedSimpArgs false

theorem put_nil {S S' : Sto} {D : Nat → Prop} {p : Nat} {t : Tm} {x : Int} {w w' : World} {e : Ending} (h : PutOk S D p none [] t w e w') (hS : putS S [] t = S' ∧ (putR S [] t).1 = x) :
    e = .returned (.tuple #[.int .i64 x, .int .i64 0]) ∧ StoDid w w' D p S' := by
  obtain ⟨he, D', h1, h2, h3, -⟩ := h
  rw [hS.2] at he
  rw [hS.1] at h1
  exact ⟨he, D', h1, ⟨h2.os, h2.tape, h2.output, h2.size, fun b hlt hb => h2.block b hlt fun e => e.elim hb fun e => by cases e⟩, h3⟩
/-- the store of the law's own: all its blocks are from B on -/
def Own8 (w : World) (B p : Nat) (S : Sto) : Prop := ∃ D, StoAt w D p S ∧ ∀ b, D b → B ≤ b
theorem Own8.did {w0 w w' : World} {B p : Nat} {D : Nat → Prop} {S' : Sto} (hD : ∀ b, D b → B ≤ b) (hb : Below B w0 w) (hB : B ≤ w.heap.size) (h : StoDid w w' D p S') : Own8 w' B p S' ∧ Below B w0 w' := by
  obtain ⟨D', h1, h2, h3⟩ := h
  refine ⟨⟨D', h1, fun b hb => ?_⟩, ⟨h2.os.trans hb.os, h2.tape.trans hb.tape, h2.output.trans hb.output, Nat.le_trans hb.size h2.size, fun b hlt => (h2.block b (by omega) fun e => by have := hD b e; omega).trans (hb.block b hlt)⟩⟩
  rcases h3 b hb with h | h
  · exact hD b h
  · omega
end Go.Proofs.Ytcbijikalfodnaa.Tms
namespace Go.Proofs.Ytcbijikalfodnaa.Tms
open Go Go.RowKit Go.Proofs.Ytcbijikalfodnaa.Reg

mutual
/-- no part is of kind 0 -/
def Tm.ok : Tm → Bool
  | .mk k _ _ a => k != 0 && okL a
def okL : List Tm → Bool
  | [] => true
  | t :: l => t.ok && okL l
end
mutual
theorem mendT_ok : ∀ t : Tm, (mendT t).ok = true
  | .mk k n s a => by
    have h := mendL_ok a
    unfold mendT
    repeat' split
    all_goals simp [Tm.ok, okL, atomA, atomT, h]
theorem mendL_ok : ∀ l : List Tm, okL (mendL l) = true
  | [] => by simp [mendL, okL]
  | t :: l => by simp [mendL, okL, mendT_ok t, mendL_ok l]
end
mutual
/-- a reading without parts of kind 0 does not pass a zero row -/
theorem TmAt.avoid {w : World} {P : Nat → Prop} {g : Nat} {T : TypeId} {fr : Nat × Nat} (hz : w.heap[g]? = some (.cells #[.int .i64 0, .int .i64 0, .string ⟨#[]⟩, .slice none 0 0] T fr)) : ∀ (t : Tm) (b o : Nat), t.ok = true → TmAt w P b o t → b ≠ g ∧ TmAt w (fun x => P x ∧ x ≠ g) b o t
  | .mk k n s a, b, o, hok, h => by
    simp only [Tm.ok, Bool.and_eq_true, bne_iff_ne] at hok
    unfold TmAt at h ⊢
    obtain ⟨q, c, h0, h1, h2, h3, h4⟩ := h
    refine ⟨fun e => ?_, q, c, h0, h1, h2, h3, ArgsFrom.avoid hz a q 0 hok.2 h4⟩
    subst e
    rw [cell_of_row w b _ _ _ _ hz] at h0
    match o with
    | 0 => simp at h0; exact hok.1 h0.symm
    | 1 => simp at h0; exact hok.1 h0.symm
    | 2 => simp at h0
    | 3 => simp at h0
    | o + 4 => simp at h0
theorem ArgsFrom.avoid {w : World} {P : Nat → Prop} {g : Nat} {T : TypeId} {fr : Nat × Nat} (hz : w.heap[g]? = some (.cells #[.int .i64 0, .int .i64 0, .string ⟨#[]⟩, .slice none 0 0] T fr)) : ∀ (l : List Tm) (q : Option Addr) (j : Nat), okL l = true → ArgsFrom w P q j l → ArgsFrom w (fun x => P x ∧ x ≠ g) q j l
  | [], q, j, _, _ => by unfold ArgsFrom; trivial
  | t :: l, q, j, hok, h => by
    simp only [okL, Bool.and_eq_true] at hok
    unfold ArgsFrom at h ⊢
    obtain ⟨⟨b, off, e, hp, ht⟩, h2⟩ := h
    obtain ⟨hne, ht'⟩ := TmAt.avoid hz t b _ hok.1 ht
    exact ⟨⟨b, off, e, ⟨hp, hne⟩, ht'⟩, ArgsFrom.avoid hz l q (j + 1) hok.2 h2⟩
end
theorem IsTm.avoid {w : World} {P : Nat → Prop} {g : Nat} {T : TypeId} {fr : Nat × Nat} (hz : w.heap[g]? = some (.cells #[.int .i64 0, .int .i64 0, .string ⟨#[]⟩, .slice none 0 0] T fr)) {v : Value} {t : Tm} (hok : t.ok = true) (h : IsTm w P v t) : IsTm w (fun x => P x ∧ x ≠ g) v t := by
  obtain ⟨a, c, e, h⟩ := h
  obtain ⟨k, n, s, l⟩ := t
  simp only [Tm.ok, Bool.and_eq_true] at hok
  exact ⟨a, c, e, ArgsFrom.avoid hz _ a 0 hok.2 h⟩

/-- this value reads as this term -/
def AnyTm (u : World) (v : Value) (t : Tm) : Prop := ∃ P, IsTm u P v t
theorem AnyTm.below {u u' : World} {v : Value} {t : Tm} (h : AnyTm u v t) (hb : Below u.heap.size u u') : AnyTm u' v t := let ⟨P, h⟩ := h; ⟨P, h.below hb⟩

end Go.Proofs.Ytcbijikalfodnaa.Tms
namespace Go.Proofs.Ytcbijikalfodnaa.Tms
open Go Go.RowKit Go.Proofs.Ytcbijikalfodnaa.Reg
set_option linter.unusedVariables false
set_option linter.unusedSimpArgs false

mutual
theorem TmAt.low {w : World} {P : Nat → Prop} : ∀ (t : Tm) (b o : Nat), TmAt w P b o t → b < w.heap.size ∧ TmAt w (fun x => P x ∧ x < w.heap.size) b o t
  | .mk k n s a, b, o, h => by
    have hlt : b < w.heap.size := by obtain ⟨_, _, _, _, _, _, _, hlt⟩ := h.read; exact hlt
    unfold TmAt at h ⊢
    obtain ⟨q, c, h0, h1, h2, h3, h4⟩ := h
    exact ⟨hlt, q, c, h0, h1, h2, h3, ArgsFrom.low a q 0 h4⟩
theorem ArgsFrom.low {w : World} {P : Nat → Prop} : ∀ (l : List Tm) (q : Option Addr) (j : Nat), ArgsFrom w P q j l → ArgsFrom w (fun x => P x ∧ x < w.heap.size) q j l
  | [], q, j, _ => by unfold ArgsFrom; trivial
  | t :: l, q, j, h => by
    unfold ArgsFrom at h ⊢
    obtain ⟨⟨b, off, e, hp, ht⟩, h2⟩ := h
    obtain ⟨hlt, ht'⟩ := TmAt.low t b _ ht
    exact ⟨⟨b, off, e, ⟨hp, hlt⟩, ht'⟩, ArgsFrom.low l q (j + 1) h2⟩
end
theorem IsTm.low {w : World} {P : Nat → Prop} {v : Value} {t : Tm} (h : IsTm w P v t) : IsTm w (fun x => P x ∧ x < w.heap.size) v t := by
  obtain ⟨a, c, e, h⟩ := h
  exact ⟨a, c, e, ArgsFrom.low _ a 0 h⟩
theorem IsSl.low {w : World} {P : Nat → Prop} {v : Value} {l : List Tm} (h : IsSl w P v l) : IsSl w (fun x => P x ∧ x < w.heap.size) v l := by
  obtain ⟨a, c, e, h⟩ := h
  exact ⟨a, c, e, ArgsFrom.low _ a 0 h⟩

end Go.Proofs.Ytcbijikalfodnaa.Tms
namespace Go.Proofs.Ytcbijikalfodnaa.Tms
open Go Go.RowKit Go.Proofs.Ytcbijikalfodnaa.Reg Go.Proofs.Ytcbijikalfodnaa.Rws Go.Proofs.Ytcbijikalfodnaa.Maps
set_option linter.unusedVariables false
set_option linter.unusedSimpArgs false

/-- a block that isn't the store's -/
def Free (D : Nat → Prop) (w : World) (b : Nat) : Prop := ¬ D b ∧ b < w.heap.size
/-- what isn't the store's stays -/
structure Step (D : Nat → Prop) (w : World) (D' : Nat → Prop) (w' : World) : Prop where
  size : w.heap.size ≤ w'.heap.size
  blk : ∀ b, Free D w b → Free D' w' b ∧ w'.heap[b]? = w.heap[b]?
theorem Step.refl (D : Nat → Prop) (w : World) : Step D w D w := ⟨Nat.le_refl _, fun b h => ⟨h, rfl⟩⟩
theorem Step.trans {D D' D'' : Nat → Prop} {w w' w'' : World} (h : Step D w D' w') (h' : Step D' w' D'' w'') : Step D w D'' w'' := ⟨Nat.le_trans h.size h'.size, fun b hb => ⟨(h'.blk b (h.blk b hb).1).1, (h'.blk b (h.blk b hb).1).2.trans (h.blk b hb).2⟩⟩
structure Law8 (w0 : World) (p : Nat) (S : Sto) (D : Nat → Prop) (w : World) : Prop where
  sto : StoAt w D p S
  own : ∀ b, D b → w0.heap.size ≤ b
  bel : Below w0.heap.size w0 w
section
variable {w0 w w' : World} {p : Nat} {S S' : Sto} {D D' : Nat → Prop}
theorem Law8.dl (h : Law8 w0 p S D w) : ∀ b, D b → b < w.heap.size := h.sto.dl''
theorem Law8.keeps (h : Law8 w0 p S D w) {M : Nat → Prop} (hM : ∀ b, M b → D b ∨ w.heap.size ≤ b) (hk : Keeps w w' M) : Below w0.heap.size w0 w' :=
  ⟨hk.os.trans h.bel.os, hk.tape.trans h.bel.tape, hk.output.trans h.bel.output, Nat.le_trans h.bel.size hk.size, fun b hlt => by
    have := h.bel.size
    exact (hk.block b (by omega) fun e => by rcases hM b e with e | e; have := h.own b e; omega; omega).trans (h.bel.block b hlt)⟩
theorem Law8.did (h : Law8 w0 p S D w) (hd : StoDid w w' D p S') : ∃ D', Law8 w0 p S' D' w' ∧ Step D w D' w' := by
  obtain ⟨D', h1, h2, h3⟩ := hd
  have hs := h.bel.size
  refine ⟨D', ⟨h1, fun b hb => ?_, h.keeps (fun b hb => .inl hb) h2⟩, h2.size, fun b hb => ⟨⟨fun e => ?_, Nat.lt_of_lt_of_le hb.2 h2.size⟩, h2.block b hb.2 hb.1⟩⟩
  · rcases h3 b hb with e | e
    · exact h.own b e
    · omega
  · rcases h3 b e with e | e
    · exact hb.1 e
    · have := hb.2; omega
theorem Law8.kept (h : Law8 w0 p S D w) (h1 : StoAt w' D p S') (h2 : Keeps w w' D) : Law8 w0 p S' D w' ∧ Step D w D w' :=
  ⟨⟨h1, h.own, h.keeps (fun b hb => .inl hb) h2⟩, h2.size, fun b hb => ⟨⟨hb.1, Nat.lt_of_lt_of_le hb.2 h2.size⟩, h2.block b hb.2 hb.1⟩⟩
theorem Law8.below (h : Law8 w0 p S D w) (hb : Below w.heap.size w w') : Law8 w0 p S D w' ∧ Step D w D w' ∧ ∀ b, w.heap.size ≤ b → b < w'.heap.size → Free D w' b :=
  ⟨⟨h.sto.below hb, h.own, h.bel.trans (hb.mono h.bel.size)⟩, ⟨hb.size, fun b hf => ⟨⟨hf.1, Nat.lt_of_lt_of_le hf.2 hb.size⟩, hb.block b hf.2⟩⟩, fun b h1 h2 => ⟨fun e => by have := h.dl b e; omega, h2⟩⟩
theorem Law8.alloc (h : Law8 w0 p S D w) (o : Obj) : Law8 w0 p S D (w.alloc o) ∧ Step D w D (w.alloc o) ∧ Free D (w.alloc o) w.heap.size ∧ (w.alloc o).heap[w.heap.size]? = some o := by
  obtain ⟨h1, h2, h3⟩ := h.below (below_new w o)
  exact ⟨h1, h2, h3 _ (Nat.le_refl _) (by simp), heap_alloc_new w o⟩
theorem IsTm.step {v : Value} {t : Tm} (h : IsTm w (Free D w) v t) (hs : Step D w D' w') : IsTm w' (Free D' w') v t := h.imp (fun b hb => (hs.blk b hb).1) fun b hb _ => (hs.blk b hb).2
theorem IsSl.step {v : Value} {t : List Tm} (h : IsSl w (Free D w) v t) (hs : Step D w D' w') : IsSl w' (Free D' w') v t := h.imp (fun b hb => (hs.blk b hb).1) fun b hb _ => (hs.blk b hb).2
/-- a row that isn't the store's -/
def RowF (D : Nat → Prop) (w : World) (r : Nat) (o : Obj) : Prop := Free D w r ∧ w.heap[r]? = some o
theorem RowF.step {r : Nat} {o : Obj} (h : RowF D w r o) (hs : Step D w D' w') : RowF D' w' r o := ⟨(hs.blk r h.1).1, (hs.blk r h.1).2.trans h.2⟩
/-- a term that was made just now -/
theorem Law8.made (h : Law8 w0 p S D w) (hb : Below w.heap.size w w') {v : Value} {t : Tm} (hi : IsTm w' (fun b => w.heap.size ≤ b) v t) : IsTm w' (Free D w') v t :=
  hi.low.imp (fun b hb' => (h.below hb).2.2 b hb'.1 hb'.2) fun _ _ _ => rfl
/-! ### What each step leaves -/
def LawDid (w0 : World) (p : Nat) (D : Nat → Prop) (w : World) (S' : Sto) (w' : World) : Prop := ∃ D', Law8 w0 p S' D' w' ∧ Step D w D' w'
theorem law_Fresh (h : Law8 w0 p S D w) (hI : Inv S) (hr : (S.cells.length : Int) < S.room) :
    Calls Try.prog 9 #[.pointer (some ⟨p, 0, none⟩)] w fun e w' => e = .returned (.tuple #[.int .i64 S.cells.length, .int .i64 0]) ∧ LawDid w0 p D w (freshS S) w' := by
  refine (sto_Fresh w h.sto (by have := hI.small; omega) hr).mono ?_
  rintro e w' ⟨rfl, hd⟩
  exact ⟨rfl, h.did hd⟩
open Classical in
/-- what Bind answers -/
noncomputable def bindE (S : Sto) (x y : Int) : Int := if ¬ (0 ≤ x ∧ x < S.cells.length) ∨ ¬ (0 ≤ y ∧ y < S.cells.length) then 2 else if (cellF S x.toNat).k = 1 then 0 else 2
open Classical in
/-- what Bind leaves -/
noncomputable def bindW (S : Sto) (x y : Int) : Sto := if ¬ (0 ≤ x ∧ x < S.cells.length) ∨ ¬ (0 ≤ y ∧ y < S.cells.length) then S else if (cellF S x.toNat).k = 1 ∧ fol S x.toNat ≠ fol S y.toNat then bindS S (fol S x.toNat) (fol S y.toNat) else S
theorem law_Undo (h : Law8 w0 p S D w) (hI : Inv S) (m : Int) :
    Calls Try.prog 23 #[.pointer (some ⟨p, 0, none⟩), .int .i64 m] w fun e w' => e = .returned (.tuple #[]) ∧ LawDid w0 p D w (undoS S m) w' := by
  refine (sto_Undo w h.sto hI.bndOk m).mono ?_
  rintro e w' ⟨rfl, hs, hk⟩
  exact ⟨rfl, D, h.kept hs hk⟩
theorem law_Cut (h : Law8 w0 p S D w) (hI : Inv S) (n : Int) :
    Calls Try.prog 34 #[.pointer (some ⟨p, 0, none⟩), .int .i64 n] w fun e w' => e = .returned (.int .i64 (cutE S n)) ∧ LawDid w0 p D w (cutS S n) w' := by
  refine (sto_Cut w h.sto (by have := hI.small; omega) (by have := hI.small; have := hI.bsmall; omega) n).mono ?_
  rintro e w' ⟨rfl, hs, hk⟩
  exact ⟨rfl, D, h.kept hs hk⟩
theorem law_Get (h : Law8 w0 p S D w) (hI : Inv S) (x : Nat) {t : Tm} (ht : Tr S t x) (hs : t.size ≤ 2000) (hx : x < S.cells.length) :
    Calls Try.prog 19 #[.pointer (some ⟨p, 0, none⟩), .int .i64 x] w fun e w' => ∃ a c, e = .returned (.tuple #[aggT t a c, .int .i64 0]) ∧ Law8 w0 p S D w' ∧ Step D w D w' ∧ IsTm w' (Free D w') (aggT t a c) t := by
  refine (sto_Get_ok w hI.stoIn h.sto x hx t _ (get_of_tr ht hs)).mono ?_
  rintro e w' ⟨a, c, rfl, hi, hb⟩
  obtain ⟨h1, h2, h3⟩ := h.below hb
  exact ⟨a, c, rfl, h1, h2, h.made hb hi⟩
end
end Go.Proofs.Ytcbijikalfodnaa.Tms
namespace Go.Proofs.Ytcbijikalfodnaa.Tms
open Go Go.RowKit Go.Proofs.Ytcbijikalfodnaa.Reg Go.Proofs.Ytcbijikalfodnaa.Rws Go.Proofs.Ytcbijikalfodnaa.Maps
set_option linter.unusedVariables false
set_option linter.unusedSimpArgs false

/-- no cell is bound -/
def NoLk (S : Sto) : Prop := ∀ c ∈ S.cells, c.lk = -1
theorem NoLk.put {S : Sto} (h : NoLk S) {M : List (Int × Int)} {t : Tm} (hp : MayPut S M t) : NoLk (putS S M t) := by
  intro c hc
  rcases List.mem_append.1 hc with hc | hc
  · exact h c hc
  · obtain ⟨d, hd, he⟩ := fixTop_mem hc
    rw [he.2.2.2.2]
    exact (hp.ok.2.1 d hd).2
theorem NoLk.fresh {S : Sto} (h : NoLk S) : NoLk (freshS S) := by
  intro c hc
  rcases List.mem_append.1 hc with hc | hc
  · exact h c hc
  · simp only [List.mem_singleton] at hc
    rw [hc]
theorem NoLk.fol {S : Sto} (h : NoLk S) {x : Nat} (hx : x < S.cells.length) : Tms.fol S x = x := fol_root (List.getElem?_eq_getElem hx) (h _ (List.getElem_mem hx))
def ct0 : Sto := ⟨1000, [], []⟩
def ct1 (t : Tm) : Sto := putS ct0 [] t
def ct2 (t u : Tm) : Sto := putS (ct1 t) [] u
def ct3 (t u : Tm) : Sto := freshS (ct2 t u)
def ct4 (t u : Tm) : Sto := bindS (ct3 t u) (ct2 t u).cells.length 0
structure CutFacts (t u : Tm) : Prop where
  i0 : Inv ct0
  i1 : Inv (ct1 t)
  i2 : Inv (ct2 t u)
  i3 : Inv (ct3 t u)
  i4 : Inv (ct4 t u)
  m1 : MayPut ct0 [] t
  m2 : MayPut (ct1 t) [] u
  n1 : 0 < (ct1 t).cells.length
  n2 : (ct1 t).cells.length < (ct2 t u).cells.length
  n3 : ((ct2 t u).cells.length : Int) < (ct2 t u).room
  t1 : Tr (ct1 t) (backT ct0 t) 0
  t2 : Tr (ct2 t u) (backT ct0 t) 0
  be : bindE (ct3 t u) (ct2 t u).cells.length (0 : Nat) = 0
  bw : bindW (ct3 t u) (ct2 t u).cells.length (0 : Nat) = ct4 t u
  c4 : cutE (ct4 t u) (ct1 t).cells.length = 14
  s4 : cutS (ct4 t u) (ct1 t).cells.length = ct4 t u
  un : undoS (ct4 t u) 0 = ct3 t u
  c3 : cutE (ct3 t u) (ct1 t).cells.length = 0
  s3 : cutS (ct3 t u) (ct1 t).cells.length = ct1 t
mutual
theorem sameT_refl : ∀ t : Tm, sameT t t = true
  | .mk k n s a => by have := sameL_refl a; simp [sameT, this]
theorem sameL_refl : ∀ l : List Tm, sameL l l = true
  | [] => by simp [sameL]
  | t :: l => by have := sameT_refl t; have := sameL_refl l; simp [sameL, *]
end
end Go.Proofs.Ytcbijikalfodnaa.Tms
namespace Go.Proofs.Ytcbijikalfodnaa.Tms
open Go Go.RowKit Go.Proofs.Ytcbijikalfodnaa.Reg Go.Proofs.Ytcbijikalfodnaa.Rws Go.Proofs.Ytcbijikalfodnaa.Maps
set_option linter.unusedVariables false
set_option linter.unusedSimpArgs false

theorem bind_get {S : Sto} {v t : Nat} (hv : v < S.cells.length) (x : Nat) : (bindS S v t).cells[x]? = if v = x then some { S.cells[v] with lk := (t : Int) } else S.cells[x]? := by
  rw [bindS_cells hv, List.getElem?_set]
  by_cases e : v = x
  · rw [if_pos e, if_pos e, if_pos hv]
  · rw [if_neg e, if_neg e]
theorem bind_len {S : Sto} {v t : Nat} (hv : v < S.cells.length) : (bindS S v t).cells.length = S.cells.length := by rw [bindS_cells hv]; simp
theorem bind_at {S : Sto} {v t x : Nat} (hv : v < S.cells.length) (hx : x < S.cells.length) (hne : x ≠ v) (h' : x < (bindS S v t).cells.length) : (bindS S v t).cells[x] = S.cells[x] := by
  have h := bind_get (t := t) hv x
  rw [if_neg (Ne.symm hne), List.getElem?_eq_getElem h', List.getElem?_eq_getElem hx] at h
  exact Option.some.inj h
theorem ch_bind {S : Sto} {v t : Nat} (hv : v < S.cells.length) (ht : t < S.cells.length) (hvl : (S.cells[v]).lk = -1) (htl : (S.cells[t]).lk = -1) (hne : v ≠ t) :
    ∀ (f x r : Nat), Ch S f x r → if r = v then Ch (bindS S v t) (f + 1) x t else Ch (bindS S v t) f x r
  | 0, x, r, ⟨hx, h1, e⟩ => by
    subst e
    have hl := bind_len (t := t) hv
    have hx' : r < (bindS S v t).cells.length := by omega
    have ht' : t < (bindS S v t).cells.length := by omega
    split
    · rename_i e
      subst e
      have h := bind_get (t := t) hv r
      rw [if_pos rfl, List.getElem?_eq_getElem hx'] at h
      exact ⟨hx', t, by rw [Option.some.inj h], ht', by rw [bind_at hv ht (Ne.symm hne) ht', htl]; decide, rfl⟩
    · rename_i e
      exact ⟨hx', by rw [bind_at hv hx e hx']; exact h1, rfl⟩
  | f + 1, x, r, ⟨hx, y, e, hc⟩ => by
    have hl := bind_len (t := t) hv
    have hx' : x < (bindS S v t).cells.length := by omega
    have hxv : x ≠ v := fun h => by subst h; rw [hvl] at e; omega
    have ih := ch_bind hv ht hvl htl hne f y r hc
    have e' : (bindS S v t).cells[x].lk = (y : Int) := by rw [bind_at hv hx hxv hx']; exact e
    split
    · rename_i h
      rw [if_pos h] at ih
      exact ⟨hx', y, e', ih⟩
    · rename_i h
      rw [if_neg h] at ih
      exact ⟨hx', y, e', ih⟩
theorem fol_bind {S : Sto} (hI : Inv S) {v t : Nat} (hv : v < S.cells.length) (ht : t < S.cells.length) (hvl : (S.cells[v]).lk = -1) (htl : (S.cells[t]).lk = -1) (hne : v ≠ t) {x : Nat} (hx : x < S.cells.length) :
    fol (bindS S v t) x = if fol S x = v then t else fol S x := by
  obtain ⟨f, hf⟩ := hI.folch hx
  have := ch_bind hv ht hvl htl hne f x _ hf
  split
  · rename_i h
    rw [if_pos h] at this
    exact fol_eq this
  · rename_i h
    rw [if_neg h] at this
    exact fol_eq this
theorem Tr.fol {S : Sto} {t : Tm} {x y : Nat} (h : Tr S t x) (e : fol S y = Tms.fol S x) : Tr S t y := by
  obtain ⟨k, n, s, a⟩ := t
  unfold Tr at h ⊢
  rw [e]
  exact h
/-! ### Undoing -/
theorem undoS_bind {S : Sto} {v t : Nat} (hv : v < S.cells.length) (hl : (S.cells[v]).lk = -1) {m : Nat} (hm : m ≤ S.bonds.length) : undoS (bindS S v t) m = undoS S m := by
  unfold undoS
  have hb : (bindS S v t).bonds.length = S.bonds.length + 1 := by simp [bindS]
  rw [hb, Int.toNat_natCast, show S.bonds.length + 1 - m = (S.bonds.length - m) + 1 by omega]
  show undoN _ (looseS (bindS S v t)) = _
  rw [loose_bind hv hl]
theorem undoS_self (S : Sto) : undoS S (S.bonds.length : Nat) = S := by
  unfold undoS
  rw [Int.toNat_natCast, Nat.sub_self]
  rfl
/-- bound since: the store T was S once, and some variables were bound -/
inductive Since (S : Sto) : Sto → Prop
  | refl : Since S S
  | step {T : Sto} (v t : Nat) (h : Since S T) (hv : v < T.cells.length) (hl : (T.cells[v]).lk = -1) : Since S (bindS T v t)
theorem Since.len {S T : Sto} (h : Since S T) : T.cells.length = S.cells.length ∧ S.bonds.length ≤ T.bonds.length := by
  induction h with
  | refl => exact ⟨rfl, Nat.le_refl _⟩
  | @step T v t h hv hl ih =>
    have e : (bindS T v t).bonds.length = T.bonds.length + 1 := by simp [bindS]
    exact ⟨(bind_len hv).trans ih.1, by omega⟩
theorem Since.undo {S T : Sto} (h : Since S T) : undoS T (S.bonds.length : Nat) = S := by
  induction h with
  | refl => exact undoS_self S
  | step v t h hv hl ih => rw [undoS_bind hv hl h.len.2]; exact ih
theorem Inv.bindW {S : Sto} (h : Inv S) (x y : Int) : Inv (Tms.bindW S x y) ∧ Since S (Tms.bindW S x y) := by
  unfold Tms.bindW
  by_cases hn : ¬ (0 ≤ x ∧ x < S.cells.length) ∨ ¬ (0 ≤ y ∧ y < S.cells.length)
  · rw [if_pos hn]; exact ⟨h, .refl⟩
  · rw [if_neg hn]
    have hx : x.toNat < S.cells.length := by omega
    have hy : y.toNat < S.cells.length := by omega
    by_cases hc : (cellF S x.toNat).k = 1 ∧ fol S x.toNat ≠ fol S y.toNat
    · rw [if_pos hc]
      have hk : (S.cells[fol S x.toNat]'(h.fol_lt hx)).k = 1 := by
        obtain ⟨f, -, g⟩ := h.stoIn.fol hx
        obtain ⟨h1, e⟩ := List.getElem?_eq_some_iff.1 g
        rw [e]; exact hc.1
      exact ⟨h.bind (h.fol_lt hx) (h.fol_lt hy) (h.fol_free hx) (h.fol_free hy) hk hc.2, .step _ _ .refl (h.fol_lt hx) (h.fol_free hx)⟩
    · rw [if_neg hc]; exact ⟨h, .refl⟩
theorem Since.trans {S T U : Sto} (h : Since S T) (h' : Since T U) : Since S U := by
  induction h' with
  | refl => exact h
  | step v t _ hv hl ih => exact .step v t ih hv hl
/-! ### New variables -/
theorem fresh_len (S : Sto) : (freshS S).cells.length = S.cells.length + 1 := by simp [freshS, addS]
structure ChainIs (S : Sto) (n m i : Nat) (T : Sto) : Prop where
  inv : Inv T
  since : Since S T
  len : T.cells.length = n + m
  bonds : T.bonds.length = i
  fol : ∀ x, x < n + m → Tms.fol T x = if n ≤ x ∧ x ≤ n + i then n + i else x
  old : ∀ x, x < n → T.cells[x]? = S.cells[x]?
  kind : ∀ j, j < m → ∃ c, T.cells[n + j]? = some c ∧ c.k = 1 ∧ c.args = []
theorem ChainIs.free {S T : Sto} {n m i : Nat} (h : ChainIs S n m i T) {x : Nat} (hx : x < n + m) (hn : x < n ∨ n + i ≤ x) : ∃ h' : x < T.cells.length, (T.cells[x]).lk = -1 := by
  have hx' : x < T.cells.length := by rw [h.len]; exact hx
  refine ⟨hx', ?_⟩
  have e : Tms.fol T x = x := by
    rw [h.fol x hx]
    split
    · omega
    · rfl
  have := h.inv.fol_free hx'
  simp only [e] at this
  exact this
theorem ChainIs.k1 {S T : Sto} {n m i j : Nat} (h : ChainIs S n m i T) (hj : j < m) (h' : n + j < T.cells.length) : (T.cells[n + j]).k = 1 := by
  obtain ⟨c, hc, hk, -⟩ := h.kind j hj
  obtain ⟨hq, e⟩ := List.getElem?_eq_some_iff.1 hc
  rw [e]; exact hk
/-- the chain's end is bound to a cell that was there -/
def chE (T : Sto) (n m : Nat) : Sto := bindS T (n + (m - 1)) 0
structure EndIs (S T : Sto) (n m : Nat) : Prop where
  be : bindE T (n : Nat) ((0 : Nat) : Int) = 0
  bw : bindW T (n : Nat) ((0 : Nat) : Int) = chE T n m
  inv : Inv (chE T n m)
  len : (chE T n m).cells.length = n + m
  fol : ∀ j, j < m → Tms.fol (chE T n m) (n + j) = 0
  fol0 : Tms.fol (chE T n m) 0 = 0
  old : ∀ x, x < n → (chE T n m).cells[x]? = S.cells[x]?
  undo : undoS (chE T n m) 0 = S
end Go.Proofs.Ytcbijikalfodnaa.Tms
namespace Go.Proofs.Ytcbijikalfodnaa.Tms
open Go Go.RowKit Go.Proofs.Ytcbijikalfodnaa.Reg Go.Proofs.Ytcbijikalfodnaa.Rws Go.Proofs.Ytcbijikalfodnaa.Maps
set_option linter.unusedVariables false
set_option linter.unusedSimpArgs false

def cntM (S : Sto) (M : List (Int × Int)) (t : Tm) : Bool × Nat × List (Int × Int) := cntT (fun n => mget M n) S.cells.length 0 [] t
/-- what Put answers: the cell, the error -/
def putA (S : Sto) (M : List (Int × Int)) (t : Tm) : Int × Int := if checkT t ≠ 0 then (0, checkT t) else if (cntM S M t).1 = false then (0, 2) else if S.room - S.cells.length < ((cntM S M t).2.1 : Int) then (0, 9) else ((putR S M t).1, 0)
/-- what Put leaves -/
def putW (S : Sto) (M : List (Int × Int)) (t : Tm) : Sto := if checkT t ≠ 0 then S else if (cntM S M t).1 = false then S else if S.room - S.cells.length < ((cntM S M t).2.1 : Int) then S else putS S M t
/-- the variables that it tells -/
def putN (S : Sto) (M : List (Int × Int)) (t : Tm) : List (Int × Int) := if checkT t ≠ 0 then [] else if (cntM S M t).1 = false then [] else if S.room - S.cells.length < ((cntM S M t).2.1 : Int) then [] else (putR S M t).2.2
theorem Inv.putW {S : Sto} (h : Inv S) (M : List (Int × Int)) (t : Tm) : Inv (Tms.putW S M t) ∧ (Tms.putW S M t).room = S.room := by
  unfold Tms.putW
  split
  · exact ⟨h, rfl⟩
  · split
    · exact ⟨h, rfl⟩
    · split
      · exact ⟨h, rfl⟩
      · rename_i h1 h2 h3
        have h2' : (cntM S M t).1 = true := by simpa using h2
        exact ⟨h.put ⟨by simpa using h1, h2', by unfold cntM at h3; omega⟩, rfl⟩
/-- what Put leaves in memory: the store, the told variables' map, all else -/
structure LawPut (w0 : World) (p : Nat) (D : Nat → Prop) (mb : Nat) (M : List (Int × Int)) (N : List (Int × Int)) (w : World) (S' : Sto) (D' : Nat → Prop) (F : List (Int × Int)) (w' : World) : Prop where
  law : Law8 w0 p S' D' w'
  perm : N.Perm F
  map : IMapB w' mb (M ++ F)
  free : ¬ D' mb
  size : w.heap.size ≤ w'.heap.size
  blk : ∀ b, Free D w b → b ≠ mb → Free D' w' b ∧ w'.heap[b]? = w.heap[b]?
section
variable {w0 w w' : World} {p mb : Nat} {S S' : Sto} {D D' : Nat → Prop} {M : List (Int × Int)}
theorem lawPut_same (h : Law8 w0 p S D w) (hm : IMapB w mb M) (hd : ¬ D mb) (hb : Below w.heap.size w w') : LawPut w0 p D mb M [] w S D [] w' := by
  obtain ⟨h1, h2, -⟩ := h.below hb
  exact ⟨h1, List.Perm.refl _, by rw [List.append_nil]; exact hm.below (hb.block _ hm.lt), hd, hb.size, fun b hb _ => h2.blk b hb⟩
theorem law_PutV (h : Law8 w0 p S D w) (hI : Inv S) (hm : IMapB w mb M) (hd : ¬ D mb) (h0 : w0.heap.size ≤ mb) {t : Tm} {v : Value} {P : Nat → Prop} (ht : IsTm w P v t) (hP : ∀ b, P b → ¬ D b) (hs : t.size ≤ 20000) :
    Calls Try.prog 17 #[.pointer (some ⟨p, 0, none⟩), v, .map (some mb)] w fun e w' => e = .returned (.tuple #[.int .i64 (putA S M t).1, .int .i64 (putA S M t).2]) ∧ ∃ D' F, LawPut w0 p D mb M (putN S M t) w (putW S M t) D' F w' := by
  have hd' : ∀ b, Value.map (some mb) = .map (some b) → ¬ D b := fun b e => by simp only [Value.map.injEq, Option.some.injEq] at e; subst e; exact hd
  have hv : VMap w (.map (some mb)) M := .inr ⟨mb, rfl, hm⟩
  have hsm := hI.small
  unfold putA putW putN
  by_cases h1 : checkT t ≠ 0
  · simp only [if_pos h1]
    refine (sto_Put_check w h.sto t v (some mb) P M (by omega) ht hv hd' h1).mono ?_
    rintro e w' ⟨rfl, hb⟩
    exact ⟨rfl, D, [], lawPut_same h hm hd hb⟩
  simp only [if_neg h1]
  have h1' : checkT t = 0 := by simpa using h1
  by_cases h2 : (cntM S M t).1 = false
  · simp only [if_pos h2]
    refine (sto_Put_arg w h.sto t v (some mb) P M (by omega) ht hv hd' h1' h2).mono ?_
    rintro e w' ⟨rfl, hb⟩
    exact ⟨rfl, D, [], lawPut_same h hm hd hb⟩
  simp only [if_neg h2]
  have h2' : (cntM S M t).1 = true := by simpa using h2
  by_cases h3 : S.room - S.cells.length < ((cntM S M t).2.1 : Int)
  · simp only [if_pos h3]
    refine (sto_Put_full w h.sto t v (some mb) P M (by omega) ht hv hd' (by omega) hI.room0 hI.room h1' h2' h3).mono ?_
    rintro e w' ⟨rfl, hb⟩
    exact ⟨rfl, D, [], lawPut_same h hm hd hb⟩
  simp only [if_neg h3]
  refine (sto_Put_ok w h.sto t v (some mb) P M (by omega) ht hv hd' hP (by omega) hI.room0 hI.room h1' h2' (by unfold cntM at h3; omega)).mono ?_
  intro e w' hp
  obtain ⟨he, D', hs', hk, hg, hF⟩ := hp
  obtain ⟨F, hperm, hmap⟩ := hF mb rfl
  have hlt := hm.lt
  have hnd : ∀ b, b < w.heap.size → ¬ D b → ¬ D' b := fun b hb hn e => by
    rcases hg b e with e | e
    · exact hn e
    · omega
  have hz := h.bel.size
  refine ⟨he, D', F, ⟨hs', fun b hb => ?_, ⟨hk.os.trans h.bel.os, hk.tape.trans h.bel.tape, hk.output.trans h.bel.output, Nat.le_trans hz hk.size, fun b hlt' => ?_⟩⟩, hperm, hmap, hnd mb hlt hd, hk.size, fun b hb hne => ⟨⟨hnd b hb.2 hb.1, Nat.lt_of_lt_of_le hb.2 hk.size⟩, ?_⟩⟩
  · rcases hg b hb with e | e
    · exact h.own b e
    · omega
  · refine (hk.block b (by omega) fun e => ?_).trans (h.bel.block b hlt')
    rcases e with e | e
    · have := h.own b e; omega
    · simp only [Option.some.injEq] at e; omega
  · refine hk.block b hb.2 fun e => ?_
    rcases e with e | e
    · exact hb.1 e
    · simp only [Option.some.injEq] at e; exact hne e.symm
def freshA (S : Sto) : Int × Int := if (S.cells.length : Int) < S.room then ((S.cells.length : Int), 0) else (0, 9)
def freshW (S : Sto) : Sto := if (S.cells.length : Int) < S.room then freshS S else S
theorem Inv.freshW {S : Sto} (h : Inv S) : Inv (Tms.freshW S) ∧ (Tms.freshW S).room = S.room := by
  unfold Tms.freshW
  split
  · rename_i h1; exact ⟨h.fresh h1, rfl⟩
  · exact ⟨h, rfl⟩
theorem law_FreshE (h : Law8 w0 p S D w) (hI : Inv S) :
    Calls Try.prog 9 #[.pointer (some ⟨p, 0, none⟩)] w fun e w' => e = .returned (.tuple #[.int .i64 (freshA S).1, .int .i64 (freshA S).2]) ∧ LawDid w0 p D w (freshW S) w' := by
  unfold freshA freshW
  by_cases hr : (S.cells.length : Int) < S.room
  · simp only [if_pos hr]
    exact law_Fresh h hI hr
  · simp only [if_neg hr]
    refine (sto_Fresh_full w h.sto (by have := hI.small; omega) (by omega)).mono ?_
    rintro e w' ⟨rfl, hb⟩
    exact ⟨rfl, D, (h.below hb).1, (h.below hb).2.1⟩
/-- a slice of ints that isn't the store's -/
theorem IntSl.step {v : Value} {L : List Int} (h : IntSl w (Free D w) v L) (hs : Step D w D' w') : IntSl w' (Free D' w') v L := h.move (fun b hb _ => (hs.blk b hb).1) fun b hb _ => (hs.blk b hb).2
end
end Go.Proofs.Ytcbijikalfodnaa.Tms
namespace Go.Proofs.Ytcbijikalfodnaa.Tms
open Go Go.RowKit Go.Proofs.Ytcbijikalfodnaa.Reg Go.Proofs.Ytcbijikalfodnaa.Rws Go.Proofs.Ytcbijikalfodnaa.Maps
set_option linter.unusedVariables false
set_option linter.unusedSimpArgs false

def hStep (g : Nat → Option Nat) (st : Option Nat) (a : Int) : Option Nat := st.bind fun m => (g a.toNat).map fun h => max m h
/-- how high a cell is, if that is no more than f -/
noncomputable def hgtF (S : Sto) : Nat → Nat → Option Nat
  | 0, _ => none
  | f + 1, x => ((cellF S x).args.foldl (hStep (hgtF S f)) (some 0)).map (· + 1)
/-- what the getter knows is so -/
def KnOk (S : Sto) (K : List (Int × Int)) : Prop := ∀ (x : Nat) (v : Int), mget K x = some v → ∃ h : Nat, v = h ∧ h ≤ 2000 ∧ hgtF S h x = some h
theorem KnOk.set {S : Sto} {K : List (Int × Int)} (hK : KnOk S K) {x h : Nat} (h2 : h ≤ 2000) (hh : hgtF S h x = some h) : KnOk S (mset (x : Int) (h : Int) K) := by
  intro y v hy
  by_cases e : (y : Int) = (x : Int)
  · rw [e, mget_mset_same] at hy
    simp only [Option.some.injEq] at hy
    obtain rfl : y = x := by omega
    exact ⟨h, hy.symm, h2, hh⟩
  · rw [mget_mset_other _ _ _ e] at hy
    exact hK y v hy
structure HtAt (S : Sto) (D : Nat → Prop) (gb mb p : Nat) (pn : Int) (K : List (Int × Int)) (w : World) : Prop where
  sto : StoAt w D p S
  row : w.heap[gb]? = some (.cells #[.pointer (some ⟨p, 0, none⟩), .int .i64 pn, .map (some mb)] 110 (0, 0))
  map : IMap w mb K
  ok : KnOk S K
theorem HtAt.lt {S : Sto} {D : Nat → Prop} {gb mb p : Nat} {pn : Int} {K : List (Int × Int)} {w : World} (h : HtAt S D gb mb p pn K w) : gb < w.heap.size ∧ mb < w.heap.size ∧ gb ≠ mb := by
  refine ⟨(Array.getElem?_eq_some_iff.1 h.row).1, h.map.lt, fun e => ?_⟩
  obtain ⟨es, c, h1, -⟩ := h.map
  have h2 := h.row
  rw [e, h1] at h2
  simp at h2
theorem HtAt.keep {S : Sto} {D : Nat → Prop} {gb mb p : Nat} {pn : Int} {K K' : List (Int × Int)} {w w' : World} (h : HtAt S D gb mb p pn K w) (hd : ¬ D mb) (hk : Keeps w w' (fun b => b = mb)) (hm : IMap w' mb K') (hK : KnOk S K') : HtAt S D gb mb p pn K' w' :=
  ⟨h.sto.keep hk.size fun b hlt hb => hk.block b hlt fun e => hd (e ▸ hb), (hk.block gb h.lt.1 h.lt.2.2).trans h.row, hm, hK⟩
end Go.Proofs.Ytcbijikalfodnaa.Tms
namespace Go.Proofs.Ytcbijikalfodnaa.Tms
open Go Go.RowKit Go.Proofs.Ytcbijikalfodnaa.Reg Go.Proofs.Ytcbijikalfodnaa.Rws Go.Proofs.Ytcbijikalfodnaa.Maps
set_option linter.unusedVariables false
set_option linter.unusedSimpArgs false

section
variable {w0 w w' : World} {p : Nat} {S S' : Sto} {D D' : Nat → Prop}
end
end Go.Proofs.Ytcbijikalfodnaa.Tms
namespace Go.Proofs.Ytcbijikalfodnaa.Tms
open Go Go.RowKit Go.Proofs.Ytcbijikalfodnaa.Reg Go.Proofs.Ytcbijikalfodnaa.Rws Go.Proofs.Ytcbijikalfodnaa.Maps
set_option linter.unusedVariables false
set_option linter.unusedSimpArgs false

mutual
/-- a new variable is told nowhere, and told once -/
theorem put_keys {told : Int → Option Int} {T0 : Int} : ∀ (t : Tm) (b : Nat) (F : List (Int × Int)), (F.map (·.1)).Nodup → (∀ p ∈ F, told p.1 = none) → ((putT told T0 b F t).2.2.map (·.1)).Nodup ∧ ∀ p ∈ (putT told T0 b F t).2.2, told p.1 = none
  | .mk k n s a, b, F, hn, hF => by
    by_cases k1 : k = 1
    · rw [putT_var (t := .mk k n s a) k1]
      simp only [Tm.n]
      cases h1 : told n with
      | some x => exact ⟨hn, hF⟩
      | none =>
        cases h2 : mget F n with
        | some x => exact ⟨hn, hF⟩
        | none =>
          refine ⟨?_, fun p hp => ?_⟩
          · simp only [List.map_append, List.map_cons, List.map_nil]
            rw [List.nodup_append]
            refine ⟨hn, by simp, fun x hx y hy e => ?_⟩
            simp only [List.mem_singleton] at hy
            obtain ⟨p, hp, e2⟩ := List.mem_map.1 hx
            exact mget_no h2 p hp (by rw [e2, e, hy])
          · rcases List.mem_append.1 hp with hp | hp
            · exact hF p hp
            · simp only [List.mem_singleton] at hp
              rw [hp]
              exact h1
    · by_cases k4 : k = 4
      · rw [putT_comp (t := .mk k n s a) k4]
        exact put_keysL a (b + 1) F hn hF
      · rw [putT_leaf (t := .mk k n s a) k1 k4]
        exact ⟨hn, hF⟩
theorem put_keysL {told : Int → Option Int} {T0 : Int} : ∀ (l : List Tm) (b : Nat) (F : List (Int × Int)), (F.map (·.1)).Nodup → (∀ p ∈ F, told p.1 = none) → ((putL told T0 b F l).2.2.map (·.1)).Nodup ∧ ∀ p ∈ (putL told T0 b F l).2.2, told p.1 = none
  | [], b, F, hn, hF => by simp only [putL]; exact ⟨hn, hF⟩
  | t :: l, b, F, hn, hF => by
    obtain ⟨h1, h2⟩ := put_keys (told := told) (T0 := T0) t b F hn hF
    simp only [putL]
    exact put_keysL l _ _ h1 h2
theorem mget_no {F : List (Int × Int)} {n : Int} (h : mget F n = none) : ∀ p ∈ F, p.1 ≠ n := by
  induction F with
  | nil => intro p hp; cases hp
  | cons q F ih =>
    intro p hp
    simp only [mget] at h
    split at h
    · cases h
    · rename_i hne
      rcases List.mem_cons.1 hp with rfl | hp
      · exact fun e => hne e.symm
      · exact ih h p hp
end
mutual
theorem cnt_all {told : Int → Option Int} {N : Nat} (h : ∀ n a, told n = some a → 0 ≤ a ∧ a < N) : ∀ (t : Tm) (c : Nat) (F : List (Int × Int)), (cntT told N c F t).1 = true
  | .mk k n s a, c, F => by
    by_cases k1 : k = 1
    · rw [cntT_var (t := .mk k n s a) k1]
      simp only [Tm.n]
      cases h1 : told n with
      | some x => have := h n x h1; simp; omega
      | none => cases mget F n <;> rfl
    · rw [cntT_not (t := .mk k n s a) k1]
      exact cnt_allL h a _ _
theorem cnt_allL {told : Int → Option Int} {N : Nat} (h : ∀ n a, told n = some a → 0 ≤ a ∧ a < N) : ∀ (l : List Tm) (c : Nat) (F : List (Int × Int)), (cntL told N c F l).1 = true
  | [], c, F => by rw [cntL_nil]
  | t :: l, c, F => by rw [cntL_pos (cnt_all h t c F)]; exact cnt_allL h l _ _
end
/-- the told variables are cells that are there, each told once -/
structure MOk (S : Sto) (M : List (Int × Int)) : Prop where
  inn : ∀ p ∈ M, 0 ≤ p.2 ∧ p.2 < S.cells.length
  nd : (M.map (·.1)).Nodup
theorem MOk.nil (S : Sto) : MOk S [] := ⟨fun p hp => (by cases hp), by simp⟩
theorem MayPut.eq {S : Sto} {M : List (Int × Int)} {t : Tm} (h : MayPut S M t) : putW S M t = putS S M t ∧ putA S M t = ((putR S M t).1, 0) ∧ putN S M t = (putR S M t).2.2 := by
  have h1 : cntM S M t = cntT (fun n => mget M n) S.cells.length 0 [] t := rfl
  have h2 := h.cnt
  have h3 := h.fit
  unfold putW putA putN
  simp only [h1, h.chk, h2, ne_eq, not_true_eq_false, if_false, Bool.true_eq_false]
  rw [if_neg (by omega), if_neg (by omega), if_neg (by omega)]
  exact ⟨rfl, rfl, rfl⟩
theorem MOk.put {S : Sto} {M : List (Int × Int)} (h : MOk S M) (hI : Inv S) {t : Tm} (hm : MayPut S M t) : MOk (putS S M t) (M ++ putN S M t) := by
  rw [hm.eq.2.2]
  have hok := hm.ok.2.2
  have hk := put_keys (told := fun n => mget M n) (T0 := lastTop S.cells) t S.cells.length [] (by simp) (fun p hp => by cases hp)
  refine ⟨fun p hp => ?_, ?_⟩
  · rw [putS_len]
    rcases List.mem_append.1 hp with hp | hp
    · have := h.inn p hp; omega
    · exact hok p hp
  · rw [List.map_append, List.nodup_append]
    refine ⟨h.nd, hk.1, fun x hx y hy e => ?_⟩
    obtain ⟨p, hp, rfl⟩ := List.mem_map.1 hx
    obtain ⟨q, hq, rfl⟩ := List.mem_map.1 hy
    exact mget_no (hk.2 q hq) p hp e
theorem MOk.same {S S' : Sto} {M : List (Int × Int)} (h : MOk S M) (e : S'.cells.length = S.cells.length) : MOk S' M := ⟨fun p hp => by rw [e]; exact h.inn p hp, h.nd⟩
/-- a map of the law's own, beside its store: it tells these, in whatever order -/
structure VarsAt (w0 : World) (D : Nat → Prop) (mb : Nat) (M : List (Int × Int)) (w : World) : Prop where
  map : ∃ L, IMapB w mb L ∧ L.Perm M
  free : ¬ D mb
  base : w0.heap.size ≤ mb
theorem VarsAt.lt {w0 w : World} {D : Nat → Prop} {mb : Nat} {M : List (Int × Int)} (h : VarsAt w0 D mb M w) : mb < w.heap.size := let ⟨L, h, _⟩ := h.map; h.lt
theorem VarsAt.step {w0 w w' : World} {D D' : Nat → Prop} {mb : Nat} {M : List (Int × Int)} (h : VarsAt w0 D mb M w) (hs : Step D w D' w') : VarsAt w0 D' mb M w' := by
  obtain ⟨L, h1, h2⟩ := h.map
  exact ⟨⟨L, h1.below (hs.blk mb ⟨h.free, h.lt⟩).2, h2⟩, (hs.blk mb ⟨h.free, h.lt⟩).1.1, h.base⟩
theorem VarsAt.below {w0 w w' : World} {D : Nat → Prop} {mb : Nat} {M : List (Int × Int)} (h : VarsAt w0 D mb M w) (hb : Below w.heap.size w w') : VarsAt w0 D mb M w' := by
  obtain ⟨L, h1, h2⟩ := h.map
  exact ⟨⟨L, h1.below (hb.block mb h.lt), h2⟩, h.free, h.base⟩
section
variable {w0 w : World} {p mb : Nat} {S : Sto} {D : Nat → Prop} {M : List (Int × Int)}
end
/-! ### What is got is small -/
end Go.Proofs.Ytcbijikalfodnaa.Tms
namespace Go.Proofs.Ytcbijikalfodnaa.Tms
open Go Go.RowKit Go.Proofs.Ytcbijikalfodnaa.Reg Go.Proofs.Ytcbijikalfodnaa.Rws
open Go.Proofs.Ytcbijikalfodnaa.Cod (Ins Cod sk check slotsN)
set_option linter.unusedVariables false
set_option linter.unusedSimpArgs false

/-- what comes of a pattern: its cell, or an error; the place behind it, the store, the slots -/
structure PtR where
  cell : Int
  err : Int
  at_ : Nat
  S : Sto
  sl : List Int
structure PsR where
  cells : List Int
  err : Int
  at_ : Nat
  S : Sto
  sl : List Int
/-- so many patterns, one behind the other, up to the first error -/
def patsX (f : Nat → Sto → List Int → PtR) : Nat → Nat → Sto → List Int → PsR
  | 0, a, S, sl => ⟨[], 0, a, S, sl⟩
  | n + 1, a, S, sl =>
    if (patsX f n a S sl).err ≠ 0 then patsX f n a S sl
    else if (f (patsX f n a S sl).at_ (patsX f n a S sl).S (patsX f n a S sl).sl).err ≠ 0 then
      ⟨(patsX f n a S sl).cells, (f (patsX f n a S sl).at_ (patsX f n a S sl).S (patsX f n a S sl).sl).err, (f (patsX f n a S sl).at_ (patsX f n a S sl).S (patsX f n a S sl).sl).at_, (f (patsX f n a S sl).at_ (patsX f n a S sl).S (patsX f n a S sl).sl).S, (f (patsX f n a S sl).at_ (patsX f n a S sl).S (patsX f n a S sl).sl).sl⟩
    else ⟨(patsX f n a S sl).cells ++ [(f (patsX f n a S sl).at_ (patsX f n a S sl).S (patsX f n a S sl).sl).cell], 0, (f (patsX f n a S sl).at_ (patsX f n a S sl).S (patsX f n a S sl).sl).at_, (f (patsX f n a S sl).at_ (patsX f n a S sl).S (patsX f n a S sl).sl).S, (f (patsX f n a S sl).at_ (patsX f n a S sl).S (patsX f n a S sl).sl).sl⟩
/-- the terms' variables are numbered: the j-th is this cell -/
def numM (l : List Int) : List (Int × Int) := l.zipIdx.map fun p => ((p.2 : Int), p.1)
def varsX (n : Nat) : List Tm := (List.range n).map fun j : Nat => varT (j : Int)
def putXE (a : Nat) (S : Sto) (sl : List Int) (M : List (Int × Int)) (t : Tm) : PtR := ⟨(putA S M t).1, (putA S M t).2, a, putW S M t, sl⟩
/-- a slot that has no cell yet has a new one -/
def slotX (i : Ins) (a : Nat) (S : Sto) (sl : List Int) : PtR :=
  if sl.getD i.a.toNat 0 < 0 then (if (freshA S).2 ≠ 0 then ⟨0, (freshA S).2, a, freshW S, sl⟩ else ⟨(freshA S).1, 0, a, freshW S, sl.set i.a.toNat (freshA S).1⟩) else ⟨sl.getD i.a.toNat 0, 0, a, S, sl⟩
def compX (i : Ins) (q : PsR) : PtR := if q.err ≠ 0 then ⟨0, q.err, q.at_, q.S, q.sl⟩ else putXE q.at_ q.S q.sl (numM q.cells) (compT i.s (varsX i.a.toNat))
def patX (L : List Ins) : Nat → Nat → Sto → List Int → PtR
  | 0, a, S, sl => ⟨0, 0, a, S, sl⟩
  | N + 1, a, S, sl => match L[a]? with
    | none => ⟨0, 0, a, S, sl⟩
    | some i => if i.op = 1 then ⟨(freshA S).1, (freshA S).2, a + 1, freshW S, sl⟩ else if i.op = 2 ∨ i.op = 3 then slotX i (a + 1) S sl
      else if i.op = 4 then putXE (a + 1) S sl [] (intT i.n) else if i.op = 5 then putXE (a + 1) S sl [] (atomT i.s)
      else compX i (patsX (patX L N) i.a.toNat (a + 1) S sl)
/-- slots: cells that are there, or none -/
def SlOk (S : Sto) (sl : List Int) : Prop := ∀ x ∈ sl, x = -1 ∨ (0 ≤ x ∧ x < S.cells.length)
/-- a store that has grown by new cells and bound variables -/
inductive Grw (S : Sto) : Sto → Prop
  | refl : Grw S S
  | plus (T : Sto) (l : List SCell) : Grw S T → (∀ c ∈ l, CellOk (T.cells.length + l.length) c ∧ c.lk = -1) → Inv (plusS T l) → Grw S (plusS T l)
  | bind (T : Sto) (v t : Nat) : Grw S T → Inv T → v < T.cells.length → (∃ h : v < T.cells.length, (T.cells[v]).lk = -1 ∧ (T.cells[v]).k = 1) → t < T.cells.length → (∃ h : t < T.cells.length, (T.cells[t]).lk = -1) → v ≠ t → Grw S (bindS T v t)
theorem Grw.trans {S T U : Sto} (h : Grw S T) (h' : Grw T U) : Grw S U := by
  induction h' with
  | refl => exact h
  | plus T l _ h1 h2 ih => exact .plus T l ih h1 h2
  | bind T v t _ h1 h2 h3 h4 h5 h6 ih => exact .bind T v t ih h1 h2 h3 h4 h5 h6
structure StGo (S S' : Sto) : Prop where
  inv : Inv S'
  bonds : S'.bonds = S.bonds
  room : S'.room = S.room
  len : S.cells.length ≤ S'.cells.length
  grw : Grw S S'
theorem StGo.refl {S : Sto} (h : Inv S) : StGo S S := ⟨h, rfl, rfl, Nat.le_refl _, .refl⟩
theorem StGo.trans {S S' S'' : Sto} (h : StGo S S') (h' : StGo S' S'') : StGo S S'' := ⟨h'.inv, h'.bonds.trans h.bonds, h'.room.trans h.room, Nat.le_trans h.len h'.len, h.grw.trans h'.grw⟩
theorem SlOk.go {S S' : Sto} {sl : List Int} (h : SlOk S sl) (hs : StGo S S') : SlOk S' sl := fun x hx => (h x hx).imp id fun h => ⟨h.1, by have := hs.len; omega⟩
/-- a pattern that was put -/
structure PtOk (S : Sto) (sl : List Int) (b : Nat) (r : PtR) : Prop where
  go : StGo S r.S
  slots : SlOk r.S r.sl
  len : r.sl.length = sl.length
  err : r.err = 0 ∨ r.err = 9
  done : r.err = 0 → r.at_ = b ∧ 0 ≤ r.cell ∧ r.cell < r.S.cells.length
structure PsOk (S : Sto) (sl : List Int) (n b : Nat) (r : PsR) : Prop where
  go : StGo S r.S
  slots : SlOk r.S r.sl
  len : r.sl.length = sl.length
  err : r.err = 0 ∨ r.err = 9
  done : r.err = 0 → r.at_ = b ∧ r.cells.length = n ∧ ∀ c ∈ r.cells, 0 ≤ c ∧ c < r.S.cells.length
theorem fresh_go {S : Sto} (h : Inv S) : StGo S (freshW S) ∧ ((freshA S).2 = 0 ∨ (freshA S).2 = 9) ∧ ((freshA S).2 = 0 → 0 ≤ (freshA S).1 ∧ (freshA S).1 < (freshW S).cells.length) := by
  have hi := h.freshW
  by_cases hr : (S.cells.length : Int) < S.room
  · have e1 : freshA S = ((S.cells.length : Int), 0) := if_pos hr
    have e2 : Tms.freshW S = freshS S := if_pos hr
    rw [e2] at hi ⊢
    rw [e1]
    have hg : Grw S (freshS S) := .plus S [⟨1, 0, ⟨#[]⟩, [], -1, lastTop S.cells⟩] .refl (fun c hc => by
      simp only [List.mem_singleton] at hc
      subst hc
      exact ⟨⟨by simp, by simp, .inl rfl, fun _ => rfl⟩, rfl⟩) hi.1
    exact ⟨⟨hi.1, rfl, hi.2, by rw [fresh_len]; omega, hg⟩, .inl rfl, fun _ => ⟨by show (0 : Int) ≤ S.cells.length; omega, by rw [fresh_len]; show (S.cells.length : Int) < _; omega⟩⟩
  · have e1 : freshA S = (0, 9) := if_neg hr
    have e2 : Tms.freshW S = S := if_neg hr
    rw [e2, e1]
    exact ⟨StGo.refl h, .inr rfl, fun e => by cases e⟩
theorem put_go {S : Sto} (h : Inv S) {M : List (Int × Int)} (hM : MOk S M) {t : Tm} (hc : checkT t = 0) : StGo S (putW S M t) ∧ ((putA S M t).2 = 0 ∨ (putA S M t).2 = 9) ∧ ((putA S M t).2 = 0 → 0 ≤ (putA S M t).1 ∧ (putA S M t).1 < (putW S M t).cells.length) := by
  have hcn : (cntM S M t).1 = true := cnt_all (fun n a ha => hM.inn _ (mget_some ha)) t 0 []
  have hi := h.putW M t
  by_cases hf : S.room - S.cells.length < ((cntM S M t).2.1 : Int)
  · have e1 : putW S M t = S := by unfold putW; rw [if_neg (by simpa using hc), if_neg (by rw [hcn]; decide), if_pos hf]
    have e2 : putA S M t = (0, 9) := by unfold putA; rw [if_neg (by simpa using hc), if_neg (by rw [hcn]; decide), if_pos hf]
    rw [e1, e2]
    exact ⟨StGo.refl h, .inr rfl, fun e => by cases e⟩
  · have hm : MayPut S M t := ⟨hc, hcn, by unfold cntM at hf; omega⟩
    obtain ⟨e1, e2, -⟩ := hm.eq
    have hb : (putW S M t).bonds = S.bonds := by rw [e1]; rfl
    have hl : (putW S M t).cells.length = S.cells.length + (putR S M t).2.1.length := by rw [e1, putS_len]
    have hg : Grw S (putW S M t) := by
      have hi1 := hi.1
      rw [e1] at hi1 ⊢
      refine .plus S _ .refl (fun c hc => ?_) hi1
      rw [fixTop_len]
      obtain ⟨d, hd, he⟩ := fixTop_mem hc
      have := hm.ok.2.1 d hd
      exact ⟨this.1.top he, by rw [he.2.2.2.2]; exact this.2⟩
    refine ⟨⟨hi.1, hb, hi.2, by omega, hg⟩, .inl (by rw [e2]), fun _ => ?_⟩
    rw [e2, hl]
    exact hm.ok.1
theorem numM_keys (l : List Int) : (numM l).map (·.1) = (List.range l.length).map fun j : Nat => (j : Int) := by
  unfold numM
  rw [List.map_map]
  apply List.ext_getElem
  · simp
  · intro i h1 h2
    simp
theorem numM_ok {S : Sto} {l : List Int} (h : ∀ c ∈ l, 0 ≤ c ∧ c < S.cells.length) : MOk S (numM l) := by
  refine ⟨fun p hp => ?_, ?_⟩
  · unfold numM at hp
    obtain ⟨q, hq, rfl⟩ := List.mem_map.1 hp
    obtain ⟨x, j⟩ := q
    exact h x (List.fst_mem_of_mem_zipIdx hq)
  · rw [numM_keys]
    unfold List.Nodup
    rw [List.pairwise_map]
    exact List.nodup_range.imp fun {a b} h e => h (by omega)
theorem vars_may (n : Nat) : mayTL (varsX n) = true := by
  unfold varsX
  generalize List.range n = l
  induction l with
  | nil => rfl
  | cons a l ih => simp [mayTL, mayT, mayB, varT] at ih ⊢; exact ih
theorem vars_size (n : Nat) : sizeL (varsX n) = n := by
  unfold varsX
  have h : ∀ l : List Nat, sizeL (l.map fun j : Nat => varT (j : Int)) = l.length := by
    intro l
    induction l with
    | nil => rfl
    | cons a l ih => simp only [List.map_cons, sizeL, List.length_cons, varT, Tm.size] at ih ⊢; omega
  rw [h, List.length_range]
theorem comp_ckX {s : ByteArray} {n : Nat} (hs : s.size ≤ 1000) (h1 : 1 ≤ n) (h2 : n ≤ 255) : checkT (compT s (varsX n)) = 0 := by
  refine check_zero ?_ ?_
  · unfold compT
    have hl : (varsX n).length = n := by simp [varsX]
    simp [mayT, vars_may, mayB, hs, hl, h1, h2]
  · unfold compT
    simp only [Tm.size, vars_size]; omega
theorem ok5X {i : Ins} (h : i.op = 5) (ho : i.ok = true) : i.s.size ≤ 1000 := by
  obtain ⟨o, a, n, s⟩ := i
  simp only at h
  subst h
  simp [Cod.Ins.ok, Cod.Ins.isName] at ho
  obtain ⟨ha, hn, hs⟩ := ho
  show s.size ≤ 1000; omega
theorem ok6X {i : Ins} (h : i.op = 6) (ho : i.ok = true) : i.s.size ≤ 1000 := by
  obtain ⟨o, a, n, s⟩ := i
  simp only at h
  subst h
  simp [Cod.Ins.ok, Cod.Ins.isComp] at ho
  obtain ⟨hn, hs⟩ := ho
  show s.size ≤ 1000; omega
theorem int_ckX (n : Int) : checkT (intT n) = 0 := check_zero (by simp [intT, mayT, mayB, mayTL]) (by simp [intT, Tm.size, sizeL])
theorem atom_ckX {s : ByteArray} (h : s.size ≤ 1000) : checkT (atomT s) = 0 := check_zero (by simp [atomT, mayT, mayB, mayTL, h]) (by simp [atomT, Tm.size, sizeL])
theorem putXE_ok {S : Sto} (hI : Inv S) {sl : List Int} (hs : SlOk S sl) {M : List (Int × Int)} (hM : MOk S M) {t : Tm} (hc : checkT t = 0) (a : Nat) : PtOk S sl a (putXE a S sl M t) := by
  obtain ⟨h1, h2, h3⟩ := put_go hI hM hc
  exact ⟨h1, hs.go h1, rfl, h2, fun e => ⟨rfl, h3 e⟩⟩
theorem slotX_ok {S : Sto} (hI : Inv S) {sl : List Int} (hs : SlOk S sl) {i : Ins} (h0 : 0 ≤ i.a) (h1 : i.a < sl.length) (a : Nat) : PtOk S sl a (slotX i a S sl) := by
  have hlt : i.a.toNat < sl.length := by omega
  have hget : sl.getD i.a.toNat 0 = sl[i.a.toNat] := by simp [List.getD, List.getElem?_eq_getElem hlt]
  have hin := hs _ (List.getElem_mem hlt)
  obtain ⟨g1, g2, g3⟩ := fresh_go hI
  unfold slotX
  rw [hget]
  by_cases hn : sl[i.a.toNat] < 0
  · rw [if_pos hn]
    by_cases he : (freshA S).2 ≠ 0
    · rw [if_pos he]
      exact ⟨g1, hs.go g1, rfl, g2, fun e => absurd e he⟩
    · rw [if_neg he]
      have he' : (freshA S).2 = 0 := by simpa using he
      refine ⟨g1, fun x hx => ?_, by simp, .inl rfl, fun _ => ⟨rfl, g3 he'⟩⟩
      rcases List.mem_or_eq_of_mem_set hx with hx | rfl
      · exact hs.go g1 x hx
      · exact .inr (g3 he')
  · rw [if_neg hn]
    refine ⟨StGo.refl hI, hs, rfl, .inl rfl, fun _ => ⟨rfl, ?_⟩⟩
    rcases hin with h | h
    · omega
    · exact h
theorem patsX_ok {L : List Ins} {sn N : Nat} (hf : ∀ a j S sl, sk (L.drop a) 1 = some j → j ≤ N → Inv S → SlOk S sl → sl.length = sn → PtOk S sl (a + j) (patX L N a S sl)) : ∀ n a j S sl, sk (L.drop a) n = some j → j ≤ N → Inv S → SlOk S sl → sl.length = sn → PsOk S sl n (a + j) (patsX (patX L N) n a S sl)
  | 0, a, j, S, sl, h, _, hI, hs, _ => by
    have hj : j = 0 := by rw [Cod.sk_zero] at h; simpa using h.symm
    subst hj
    exact ⟨StGo.refl hI, hs, rfl, .inl rfl, fun _ => ⟨rfl, rfl, by simp [patsX]⟩⟩
  | n + 1, a, j, S, sl, h, hj, hI, hs, hl => by
    obtain ⟨x, y, h1, h2, rfl⟩ := sk_split _ n 1 j h
    rw [List.drop_drop] at h2
    have ih := patsX_ok hf n a x S sl h1 (by omega) hI hs hl
    unfold patsX
    by_cases he : (patsX (patX L N) n a S sl).err ≠ 0
    · rw [if_pos he]
      exact ⟨ih.go, ih.slots, ih.len, ih.err, fun e => absurd e he⟩
    · rw [if_neg he]
      have he' : (patsX (patX L N) n a S sl).err = 0 := by simpa using he
      obtain ⟨ia, il, ic⟩ := ih.done he'
      have hp := hf (patsX (patX L N) n a S sl).at_ y (patsX (patX L N) n a S sl).S (patsX (patX L N) n a S sl).sl (by rw [ia]; exact h2) (by omega) ih.go.inv ih.slots (ih.len.trans hl)
      generalize patsX (patX L N) n a S sl = q at *
      generalize patX L N q.at_ q.S q.sl = r at *
      by_cases hr : r.err ≠ 0
      · rw [if_pos hr]
        exact ⟨ih.go.trans hp.go, hp.slots, hp.len.trans ih.len, hp.err, fun e => absurd e hr⟩
      · rw [if_neg hr]
        have hr' : r.err = 0 := by simpa using hr
        obtain ⟨ra, rc⟩ := hp.done hr'
        refine ⟨ih.go.trans hp.go, hp.slots, hp.len.trans ih.len, .inl rfl, fun _ => ⟨by show r.at_ = _; omega, by simp [il], fun c hc => ?_⟩⟩
        rcases List.mem_append.1 hc with hc | hc
        · have := ic c hc; have := hp.go.len; show 0 ≤ c ∧ c < r.S.cells.length; omega
        · simp only [List.mem_singleton] at hc; subst hc; exact rc
theorem patX_ok {L : List Ins} {sn : Nat} (hok : ∀ i ∈ L, i.ok = true) (hsl : ∀ i ∈ L, i.op = 2 ∨ i.op = 3 → 0 ≤ i.a ∧ i.a < sn) : ∀ N a j S sl, sk (L.drop a) 1 = some j → j ≤ N → Inv S → SlOk S sl → sl.length = sn → PtOk S sl (a + j) (patX L N a S sl)
  | 0, a, j, S, sl, h, hj, hI, hs, hl => by
    obtain ⟨i, l', q, -, -, -, rfl⟩ := sk_one h
    omega
  | N + 1, a, j, S, sl, h, hj, hI, hs, hl => by
    obtain ⟨i, l', q, hd, hb, hq, rfl⟩ := sk_one h
    obtain ⟨b1, b2, b3⟩ := not_bad hb
    have hla : L[a]? = some i := by
      have := congrArg List.head? hd
      rw [List.head?_drop] at this
      simpa using this
    have hl' : L.drop (a + 1) = l' := by
      have := congrArg List.tail hd
      rw [List.tail_drop] at this
      simpa using this
    have hm : i ∈ L := List.mem_of_getElem? hla
    have ho := hok i hm
    unfold patX
    rw [hla]
    simp only []
    by_cases o1 : i.op = 1
    · rw [if_pos o1]
      have hq0 : q = 0 := by
        have : i.ar = 0 := by unfold Cod.Ins.ar; rw [if_neg (by omega)]
        rw [this, Cod.sk_zero] at hq; simpa using hq.symm
      subst hq0
      obtain ⟨g1, g2, g3⟩ := fresh_go hI
      exact ⟨g1, hs.go g1, rfl, g2, fun e => ⟨rfl, g3 e⟩⟩
    rw [if_neg o1]
    by_cases o2 : i.op = 2 ∨ i.op = 3
    · rw [if_pos o2]
      have hq0 : q = 0 := by
        have : i.ar = 0 := by unfold Cod.Ins.ar; rw [if_neg (by omega)]
        rw [this, Cod.sk_zero] at hq; simpa using hq.symm
      subst hq0
      obtain ⟨s0, s1⟩ := hsl i hm o2
      exact slotX_ok hI hs s0 (by omega) (a + 1)
    rw [if_neg o2]
    by_cases o4 : i.op = 4
    · rw [if_pos o4]
      have hq0 : q = 0 := by
        have : i.ar = 0 := by unfold Cod.Ins.ar; rw [if_neg (by omega)]
        rw [this, Cod.sk_zero] at hq; simpa using hq.symm
      subst hq0
      exact putXE_ok hI hs (MOk.nil S) (int_ckX _) (a + 1)
    rw [if_neg o4]
    by_cases o5 : i.op = 5
    · rw [if_pos o5]
      have hq0 : q = 0 := by
        have : i.ar = 0 := by unfold Cod.Ins.ar; rw [if_neg (by omega)]
        rw [this, Cod.sk_zero] at hq; simpa using hq.symm
      subst hq0
      exact putXE_ok hI hs (MOk.nil S) (atom_ckX (ok5X o5 ho)) (a + 1)
    rw [if_neg o5]
    have o6 : i.op = 6 := by omega
    obtain ⟨a1, a2⟩ := b3 o6
    have har : i.ar = i.a.toNat := by unfold Cod.Ins.ar; rw [if_pos o6]
    rw [har, ← hl'] at hq
    have hp := patsX_ok (patX_ok hok hsl N) i.a.toNat (a + 1) q S sl hq (by omega) hI hs hl
    generalize patsX (patX L N) i.a.toNat (a + 1) S sl = r at *
    unfold compX
    by_cases he : r.err ≠ 0
    · rw [if_pos he]
      exact ⟨hp.go, hp.slots, hp.len, hp.err, fun e => absurd e he⟩
    · rw [if_neg he]
      obtain ⟨ra, rl, rc⟩ := hp.done (by simpa using he)
      have hx := putXE_ok hp.go.inv hp.slots (numM_ok rc) (comp_ckX (ok6X o6 ho) (by omega) (by omega) : checkT (compT i.s (varsX i.a.toNat)) = 0) r.at_
      exact ⟨hp.go.trans hx.go, hx.slots, hx.len.trans hp.len, hx.err, fun e => ⟨by have := (hx.done e).1; omega, (hx.done e).2⟩⟩
end Go.Proofs.Ytcbijikalfodnaa.Tms
namespace Go.Proofs.Ytcbijikalfodnaa.Tms
open Go Go.RowKit Go.Proofs.Ytcbijikalfodnaa.Reg Go.Proofs.Ytcbijikalfodnaa.Rws Go.Proofs.Ytcbijikalfodnaa.Maps
open Go.Proofs.Ytcbijikalfodnaa.Cod (Ins Cod sk check slotsN InsSl InsAt)
set_option linter.unusedVariables false
set_option linter.unusedSimpArgs false

abbrev exO (p : Nat) (lv : Value) (at_ : Int) (sv : Value) (k : Int) : Obj := .cells #[.pointer (some ⟨p, 0, none⟩), lv, .int .i64 at_, sv, .nilFunc, .func (.func 53) #[] #[], .func (.func 54) #[] #[], .func (.func 54) #[] #[], .func (.func 55) #[] #[], .func (.func 56) #[] #[], .func (.func 57) #[] #[], .int .i64 k] 88 (0, 0)
theorem insSl_keepX {w w' : World} {v : Value} {L : List Ins} (h : InsSl w v L) (hk : ∀ b, slBlk v = some b → w'.heap[b]? = w.heap[b]?) : InsSl w' v L := by
  obtain ⟨a, cap, rfl, hc⟩ := h
  refine ⟨a, cap, rfl, fun j hj => ?_⟩
  obtain ⟨b, off, ea, h0, h1, h2, h3⟩ := hc j hj
  subst ea
  have hb := hk b rfl
  exact ⟨b, off, rfl, (World.cell?_of_block (a := ⟨b, _, none⟩) hb).trans h0, (World.cell?_of_block (a := ⟨b, _, none⟩) hb).trans h1, (World.cell?_of_block (a := ⟨b, _, none⟩) hb).trans h2, (World.cell?_of_block (a := ⟨b, _, none⟩) hb).trans h3⟩
/-- a run's object, its slots, its code, its store: the store owns D -/
structure ExAt (w0 : World) (p rb qb : Nat) (S : Sto) (D : Nat → Prop) (lv : Value) (L : List Ins) (at_ : Nat) (sl : List Int) (k : Nat) (w : World) : Prop where
  law : Law8 w0 p S D w
  row : w.heap[rb]? = some (exO p lv at_ (.slice (some ⟨qb, 0, none⟩) sl.length sl.length) k)
  slots : IFill w qb sl.length sl
  ins : InsSl w lv L
  rF : ¬ D rb ∧ w0.heap.size ≤ rb
  qF : ¬ D qb ∧ w0.heap.size ≤ qb ∧ qb ≠ rb
  iF : ∀ b, slBlk lv = some b → Free D w b ∧ b ≠ rb ∧ b ≠ qb
/-- a block that is neither the store's nor the run's -/
def EOut (rb qb : Nat) (D : Nat → Prop) (w : World) (b : Nat) : Prop := ¬ D b ∧ b ≠ rb ∧ b ≠ qb ∧ b < w.heap.size
structure EStep (rb qb : Nat) (D : Nat → Prop) (w : World) (D' : Nat → Prop) (w' : World) : Prop where
  size : w.heap.size ≤ w'.heap.size
  blk : ∀ b, EOut rb qb D w b → EOut rb qb D' w' b ∧ w'.heap[b]? = w.heap[b]?
theorem EStep.refl (rb qb : Nat) (D : Nat → Prop) (w : World) : EStep rb qb D w D w := ⟨Nat.le_refl _, fun b h => ⟨h, rfl⟩⟩
theorem EStep.trans {rb qb : Nat} {D D' D'' : Nat → Prop} {w w' w'' : World} (h : EStep rb qb D w D' w') (h' : EStep rb qb D' w' D'' w'') : EStep rb qb D w D'' w'' :=
  ⟨Nat.le_trans h.size h'.size, fun b hb => ⟨(h'.blk b (h.blk b hb).1).1, (h'.blk b (h.blk b hb).1).2.trans (h.blk b hb).2⟩⟩
section
variable {w0 w w' : World} {p rb qb at_ k : Nat} {S S' : Sto} {D D' : Nat → Prop} {lv : Value} {L : List Ins} {sl : List Int}
theorem ExAt.rlt (h : ExAt w0 p rb qb S D lv L at_ sl k w) : rb < w.heap.size := (Array.getElem?_eq_some_iff.1 h.row).1
theorem ExAt.qlt (h : ExAt w0 p rb qb S D lv L at_ sl k w) : qb < w.heap.size := h.slots.lt
/-- the store turns -/
theorem ExAt.did (h : ExAt w0 p rb qb S D lv L at_ sl k w) (hl : Law8 w0 p S' D' w') (hs : Step D w D' w') : ExAt w0 p rb qb S' D' lv L at_ sl k w' ∧ EStep rb qb D w D' w' := by
  have hr := hs.blk rb ⟨h.rF.1, h.rlt⟩
  have hq := hs.blk qb ⟨h.qF.1, h.qlt⟩
  exact ⟨⟨hl, hr.2.trans h.row, h.slots.keep hq.2, insSl_keepX h.ins fun b e => (hs.blk b (h.iF b e).1).2, ⟨hr.1.1, h.rF.2⟩, ⟨hq.1.1, h.qF.2⟩, fun b e => ⟨(hs.blk b (h.iF b e).1).1, (h.iF b e).2⟩⟩,
    hs.size, fun b hb => ⟨⟨(hs.blk b ⟨hb.1, hb.2.2.2⟩).1.1, hb.2.1, hb.2.2.1, (hs.blk b ⟨hb.1, hb.2.2.2⟩).1.2⟩, (hs.blk b ⟨hb.1, hb.2.2.2⟩).2⟩⟩
theorem ExAt.below (h : ExAt w0 p rb qb S D lv L at_ sl k w) (hb : Below w.heap.size w w') : ExAt w0 p rb qb S D lv L at_ sl k w' ∧ EStep rb qb D w D w' ∧ ∀ b, w.heap.size ≤ b → b < w'.heap.size → EOut rb qb D w' b := by
  obtain ⟨h1, h2, h3⟩ := h.law.below hb
  obtain ⟨g1, g2⟩ := h.did h1 h2
  exact ⟨g1, g2, fun b hb1 hb2 => ⟨(h3 b hb1 hb2).1, fun e => by have := h.rlt; omega, fun e => by have := h.qlt; omega, hb2⟩⟩
theorem ExAt.other (h : ExAt w0 p rb qb S D lv L at_ sl k w) (hb : Below w0.heap.size w0 w') (hz : w.heap.size ≤ w'.heap.size) (hk : ∀ b, b < w.heap.size → D b ∨ b = rb ∨ b = qb ∨ slBlk lv = some b → w'.heap[b]? = w.heap[b]?) : ExAt w0 p rb qb S D lv L at_ sl k w' :=
  ⟨⟨h.law.sto.keep hz fun b hlt hd => hk b hlt (.inl hd), h.law.own, hb⟩, (hk rb h.rlt (.inr (.inl rfl))).trans h.row, h.slots.keep (hk qb h.qlt (.inr (.inr (.inl rfl)))), insSl_keepX h.ins fun b e => hk b (h.iF b e).1.2 (.inr (.inr (.inr e))), h.rF, h.qF, fun b e => ⟨⟨(h.iF b e).1.1, Nat.lt_of_lt_of_le (h.iF b e).1.2 hz⟩, (h.iF b e).2⟩⟩
/-- a field of the run's row is written -/
theorem ExAt.setRow (h : ExAt w0 p rb qb S D lv L at_ sl k w) {o at' k' : Nat} {v : Value} (hrow : (w.setCell ⟨rb, o, none⟩ v).heap[rb]? = some (exO p lv at' (.slice (some ⟨qb, 0, none⟩) sl.length sl.length) k')) : ExAt w0 p rb qb S D lv L at' sl k' (w.setCell ⟨rb, o, none⟩ v) ∧ EStep rb qb D w D (w.setCell ⟨rb, o, none⟩ v) := by
  have hz : (w.setCell ⟨rb, o, none⟩ v).heap.size = w.heap.size := by simp [World.setCell]
  have hb : ∀ b, b ≠ rb → (w.setCell ⟨rb, o, none⟩ v).heap[b]? = w.heap[b]? := fun b hb => Below.heap_setCell _ _ _ _ hb
  exact ⟨⟨⟨h.law.sto.keep (by omega) fun b _ hd => hb b fun e => h.rF.1 (e ▸ hd), h.law.own, h.law.bel.setCell h.rF.2 _⟩, hrow, h.slots.keep (hb qb h.qF.2.2), insSl_keepX h.ins fun b e => hb b (h.iF b e).2.1, h.rF, h.qF, fun b e => ⟨⟨(h.iF b e).1.1, by rw [hz]; exact (h.iF b e).1.2⟩, (h.iF b e).2⟩⟩,
    by omega, fun b hb' => ⟨⟨hb'.1, hb'.2.1, hb'.2.2.1, by rw [hz]; exact hb'.2.2.2⟩, hb b hb'.2.1⟩⟩
theorem ExAt.setAt (h : ExAt w0 p rb qb S D lv L at_ sl k w) (x : Nat) : ExAt w0 p rb qb S D lv L x sl k (w.setCell ⟨rb, 2, none⟩ (.int .i64 x)) ∧ EStep rb qb D w D (w.setCell ⟨rb, 2, none⟩ (.int .i64 x)) :=
  h.setRow (heap_setCell_same w rb 2 _ _ (.int .i64 x) h.row)
theorem ExAt.setWork (h : ExAt w0 p rb qb S D lv L at_ sl k w) (x : Nat) : ExAt w0 p rb qb S D lv L at_ sl x (w.setCell ⟨rb, 11, none⟩ (.int .i64 x)) ∧ EStep rb qb D w D (w.setCell ⟨rb, 11, none⟩ (.int .i64 x)) :=
  h.setRow (heap_setCell_same w rb 11 _ _ (.int .i64 x) h.row)
theorem IFill.set {g n j : Nat} {l : List Int} (h : IFill w g n l) (hj : j < n) (x : Int) : (∃ y, w.cell? ⟨g, j, none⟩ = some y) ∧ w.frozen? ⟨g, j, none⟩ = false ∧ IFill (w.setCell ⟨g, j, none⟩ (.int .i64 x)) g n (l.set j x) := by
  obtain ⟨cs, h1, h2⟩ := h.row
  have e1 := heap_setCell_same w g j _ _ (.int .i64 x) h1
  refine ⟨⟨cs[j]'(by omega), by rw [cell_of_row w g j _ _ _ h1]; simp [h2, hj]⟩, by simp [World.frozen?, h1], ⟨_, e1, by simp [h2]⟩, fun i hi => ?_⟩
  rw [cell_of_row _ g i _ _ _ e1]
  have hi' : i < l.length := by simpa using hi
  have hg := h.got i hi'
  rw [cell_of_row w g i _ _ _ h1] at hg
  rw [List.getElem_set]
  by_cases e : j = i
  · subst e
    rw [if_pos rfl]
    simp [h2, hj]
  · rw [if_neg e, Array.getElem?_setIfInBounds_ne (by omega)]
    exact hg
/-- a slot is written -/
theorem ExAt.setSlot (h : ExAt w0 p rb qb S D lv L at_ sl k w) (j : Nat) (hj : j < sl.length) (x : Int) : (∃ y, w.cell? ⟨qb, j, none⟩ = some y) ∧ w.frozen? ⟨qb, j, none⟩ = false ∧ ExAt w0 p rb qb S D lv L at_ (sl.set j x) k (w.setCell ⟨qb, j, none⟩ (.int .i64 x)) ∧ EStep rb qb D w D (w.setCell ⟨qb, j, none⟩ (.int .i64 x)) := by
  obtain ⟨g1, g2, g3⟩ := IFill.set h.slots hj x
  have hz : (w.setCell ⟨qb, j, none⟩ (.int .i64 x)).heap.size = w.heap.size := by simp [World.setCell]
  have hb : ∀ b, b ≠ qb → (w.setCell ⟨qb, j, none⟩ (.int .i64 x)).heap[b]? = w.heap[b]? := fun b hb => Below.heap_setCell _ _ _ _ hb
  exact ⟨g1, g2, ⟨⟨h.law.sto.keep (by omega) fun b _ hd => hb b fun e => h.qF.1 (e ▸ hd), h.law.own, h.law.bel.setCell h.qF.2.1 _⟩, by rw [List.length_set]; exact (hb rb (Ne.symm h.qF.2.2)).trans h.row, by rw [List.length_set]; exact g3, insSl_keepX h.ins fun b e => hb b (h.iF b e).2.2, h.rF, h.qF, fun b e => ⟨⟨(h.iF b e).1.1, by rw [hz]; exact (h.iF b e).1.2⟩, (h.iF b e).2⟩⟩,
    by omega, fun b hb' => ⟨⟨hb'.1, hb'.2.1, hb'.2.2.1, by rw [hz]; exact hb'.2.2.2⟩, hb b hb'.2.2.1⟩⟩
end
/-- what a step of a run leaves -/
def ExPost (w0 : World) (p rb qb : Nat) (lv : Value) (L : List Ins) (k : Nat) (D : Nat → Prop) (w : World) (r : PtR) (e : Ending) (w' : World) : Prop :=
  e = .returned (.tuple #[.int .i64 r.cell, .int .i64 r.err]) ∧ ∃ D', ExAt w0 p rb qb r.S D' lv L r.at_ r.sl k w' ∧ EStep rb qb D w D' w'
theorem row12 {w : World} {g : Nat} {y0 y1 y2 y3 y4 y5 y6 y7 y8 y9 y10 y11 : Value} {T : TypeId} {fr : Nat × Nat} (h : w.heap[g]? = some (.cells #[y0, y1, y2, y3, y4, y5, y6, y7, y8, y9, y10, y11] T fr)) :
    w.cell? ⟨g, 0, none⟩ = some y0 ∧ w.cell? ⟨g, 1, none⟩ = some y1 ∧ w.cell? ⟨g, 2, none⟩ = some y2 ∧ w.cell? ⟨g, 3, none⟩ = some y3 ∧ w.cell? ⟨g, 11, none⟩ = some y11 :=
  ⟨cell_of_row w g 0 _ _ _ h, cell_of_row w g 1 _ _ _ h, cell_of_row w g 2 _ _ _ h, cell_of_row w g 3 _ _ _ h, cell_of_row w g 11 _ _ _ h⟩
end Go.Proofs.Ytcbijikalfodnaa.Tms
namespace Go.Proofs.Ytcbijikalfodnaa.Tms
open Go Go.RowKit Go.Proofs.Ytcbijikalfodnaa.Reg Go.Proofs.Ytcbijikalfodnaa.Rws Go.Proofs.Ytcbijikalfodnaa.Maps
set_option linter.unusedVariables false
set_option linter.unusedSimpArgs false
section
variable {w0 w w' : World} {p : Nat} {S S' : Sto} {D D' : Nat → Prop}
/-- Put without a map of variables -/
theorem law_Put0 (h : Law8 w0 p S D w) (hI : Inv S) {t : Tm} {v : Value} {P : Nat → Prop} (ht : IsTm w P v t) (hP : ∀ b, P b → ¬ D b) (hs : t.size ≤ 20000) :
    Calls Try.prog 17 #[.pointer (some ⟨p, 0, none⟩), v, .map none] w fun e w' => e = .returned (.tuple #[.int .i64 (putA S [] t).1, .int .i64 (putA S [] t).2]) ∧ LawDid w0 p D w (putW S [] t) w' := by
  have hv : VMap w (.map none) [] := .inl ⟨rfl, rfl⟩
  have hd' : ∀ b, Value.map none = .map (some b) → ¬ D b := fun b e => by cases e
  have hsm := hI.small
  unfold putA putW
  by_cases h1 : checkT t ≠ 0
  · simp only [if_pos h1]
    refine (sto_Put_check w h.sto t v none P [] (by omega) ht hv hd' h1).mono ?_
    rintro e w' ⟨rfl, hb⟩
    exact ⟨rfl, D, (h.below hb).1, (h.below hb).2.1⟩
  simp only [if_neg h1]
  have h1' : checkT t = 0 := by simpa using h1
  by_cases h2 : (cntM S [] t).1 = false
  · simp only [if_pos h2]
    refine (sto_Put_arg w h.sto t v none P [] (by omega) ht hv hd' h1' h2).mono ?_
    rintro e w' ⟨rfl, hb⟩
    exact ⟨rfl, D, (h.below hb).1, (h.below hb).2.1⟩
  simp only [if_neg h2]
  have h2' : (cntM S [] t).1 = true := by simpa using h2
  by_cases h3 : S.room - S.cells.length < ((cntM S [] t).2.1 : Int)
  · simp only [if_pos h3]
    refine (sto_Put_full w h.sto t v none P [] (by omega) ht hv hd' (by omega) hI.room0 hI.room h1' h2' h3).mono ?_
    rintro e w' ⟨rfl, hb⟩
    exact ⟨rfl, D, (h.below hb).1, (h.below hb).2.1⟩
  simp only [if_neg h3]
  refine (sto_Put_ok w h.sto t v none P [] (by omega) ht hv hd' hP (by omega) hI.room0 hI.room h1' h2' (by unfold cntM at h3; omega)).mono ?_
  intro e w' hp
  obtain ⟨rfl, hd⟩ := put_nil hp ⟨rfl, rfl⟩
  exact ⟨rfl, h.did hd⟩
end
end Go.Proofs.Ytcbijikalfodnaa.Tms
