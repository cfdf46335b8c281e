
/-
  StoreBinds and StoreUndoes, plain: what following is once more is bound; a chain of variables; undoing gives back what was.
-/
import Derived.Test.YtoklbeogmcdgaaaSla
namespace Go.Proofs.Ytoklbeogmcdgaaa.Tms
open Go Go.RowKit Go.Proofs.Ytoklbeogmcdgaaa.Reg Go.Proofs.Ytoklbeogmcdgaaa.Rws Go.Proofs.Ytoklbeogmcdgaaa.Maps
set_option linter.unusedVariables false
set_option linter.unusedSimpArgs false

theorem bind_get {S : Sto} {v t : Nat} (hv : v < S.cells.length) (x : Nat) : (bindS S v t).cells[x]? = if v = x then some { S.cells[v] with lk := (t : Int) } else S.cells[x]? := by
  rw [bindS_cells hv, List.getElem?_set]
  by_cases e : v = x
  · rw [if_pos e, if_pos e, if_pos hv]
  · rw [if_neg e, if_neg e]
theorem bind_len {S : Sto} {v t : Nat} (hv : v < S.cells.length) : (bindS S v t).cells.length = S.cells.length := by rw [bindS_cells hv]; simp
theorem bind_at {S : Sto} {v t x : Nat} (hv : v < S.cells.length) (hx : x < S.cells.length) (hne : x ≠ v) (h' : x < (bindS S v t).cells.length) : (bindS S v t).cells[x] = S.cells[x] := by
  have h := bind_get (t := t) hv x
  rw [if_neg (Ne.symm hne), List.getElem?_eq_getElem h', List.getElem?_eq_getElem hx] at h
  exact Option.some.inj h
theorem ch_bind {S : Sto} {v t : Nat} (hv : v < S.cells.length) (ht : t < S.cells.length) (hvl : (S.cells[v]).lk = -1) (htl : (S.cells[t]).lk = -1) (hne : v ≠ t) :
    ∀ (f x r : Nat), Ch S f x r → if r = v then Ch (bindS S v t) (f + 1) x t else Ch (bindS S v t) f x r
  | 0, x, r, ⟨hx, h1, e⟩ => by
    subst e
    have hl := bind_len (t := t) hv
    have hx' : r < (bindS S v t).cells.length := by omega
    have ht' : t < (bindS S v t).cells.length := by omega
    split
    · rename_i e
      subst e
      have h := bind_get (t := t) hv r
      rw [if_pos rfl, List.getElem?_eq_getElem hx'] at h
      exact ⟨hx', t, by rw [Option.some.inj h], ht', by rw [bind_at hv ht (Ne.symm hne) ht', htl]; decide, rfl⟩
    · rename_i e
      exact ⟨hx', by rw [bind_at hv hx e hx']; exact h1, rfl⟩
  | f + 1, x, r, ⟨hx, y, e, hc⟩ => by
    have hl := bind_len (t := t) hv
    have hx' : x < (bindS S v t).cells.length := by omega
    have hxv : x ≠ v := fun h => by subst h; rw [hvl] at e; omega
    have ih := ch_bind hv ht hvl htl hne f y r hc
    have e' : (bindS S v t).cells[x].lk = (y : Int) := by rw [bind_at hv hx hxv hx']; exact e
    split
    · rename_i h
      rw [if_pos h] at ih
      exact ⟨hx', y, e', ih⟩
    · rename_i h
      rw [if_neg h] at ih
      exact ⟨hx', y, e', ih⟩
theorem fol_bind {S : Sto} (hI : Inv S) {v t : Nat} (hv : v < S.cells.length) (ht : t < S.cells.length) (hvl : (S.cells[v]).lk = -1) (htl : (S.cells[t]).lk = -1) (hne : v ≠ t) {x : Nat} (hx : x < S.cells.length) :
    fol (bindS S v t) x = if fol S x = v then t else fol S x := by
  obtain ⟨f, hf⟩ := hI.folch hx
  have := ch_bind hv ht hvl htl hne f x _ hf
  split
  · rename_i h
    rw [if_pos h] at this
    exact fol_eq this
  · rename_i h
    rw [if_neg h] at this
    exact fol_eq this
theorem Tr.fol {S : Sto} {t : Tm} {x y : Nat} (h : Tr S t x) (e : fol S y = Tms.fol S x) : Tr S t y := by
  obtain ⟨k, n, s, a⟩ := t
  unfold Tr at h ⊢
  rw [e]
  exact h
/-! ### Undoing -/
theorem undoS_bind {S : Sto} {v t : Nat} (hv : v < S.cells.length) (hl : (S.cells[v]).lk = -1) {m : Nat} (hm : m ≤ S.bonds.length) : undoS (bindS S v t) m = undoS S m := by
  unfold undoS
  have hb : (bindS S v t).bonds.length = S.bonds.length + 1 := by simp [bindS]
  rw [hb, Int.toNat_natCast, show S.bonds.length + 1 - m = (S.bonds.length - m) + 1 by omega]
  show undoN _ (looseS (bindS S v t)) = _
  rw [loose_bind hv hl]
theorem undoS_self (S : Sto) : undoS S (S.bonds.length : Nat) = S := by
  unfold undoS
  rw [Int.toNat_natCast, Nat.sub_self]
  rfl
/-- bound since: the store T was S once, and some variables were bound -/
inductive Since (S : Sto) : Sto → Prop
  | refl : Since S S
  | step {T : Sto} (v t : Nat) (h : Since S T) (hv : v < T.cells.length) (hl : (T.cells[v]).lk = -1) : Since S (bindS T v t)
theorem Since.len {S T : Sto} (h : Since S T) : T.cells.length = S.cells.length ∧ S.bonds.length ≤ T.bonds.length := by
  induction h with
  | refl => exact ⟨rfl, Nat.le_refl _⟩
  | @step T v t h hv hl ih =>
    have e : (bindS T v t).bonds.length = T.bonds.length + 1 := by simp [bindS]
    exact ⟨(bind_len hv).trans ih.1, by omega⟩
theorem Since.undo {S T : Sto} (h : Since S T) : undoS T (S.bonds.length : Nat) = S := by
  induction h with
  | refl => exact undoS_self S
  | step v t h hv hl ih => rw [undoS_bind hv hl h.len.2]; exact ih
theorem Inv.bindW {S : Sto} (h : Inv S) (x y : Int) : Inv (Tms.bindW S x y) ∧ Since S (Tms.bindW S x y) := by
  unfold Tms.bindW
  by_cases hn : ¬ (0 ≤ x ∧ x < S.cells.length) ∨ ¬ (0 ≤ y ∧ y < S.cells.length)
  · rw [if_pos hn]; exact ⟨h, .refl⟩
  · rw [if_neg hn]
    have hx : x.toNat < S.cells.length := by omega
    have hy : y.toNat < S.cells.length := by omega
    by_cases hc : (cellF S x.toNat).k = 1 ∧ fol S x.toNat ≠ fol S y.toNat
    · rw [if_pos hc]
      have hk : (S.cells[fol S x.toNat]'(h.fol_lt hx)).k = 1 := by
        obtain ⟨f, -, g⟩ := h.stoIn.fol hx
        obtain ⟨h1, e⟩ := List.getElem?_eq_some_iff.1 g
        rw [e]; exact hc.1
      exact ⟨h.bind (h.fol_lt hx) (h.fol_lt hy) (h.fol_free hx) (h.fol_free hy) hk hc.2, .step _ _ .refl (h.fol_lt hx) (h.fol_free hx)⟩
    · rw [if_neg hc]; exact ⟨h, .refl⟩
theorem Since.trans {S T U : Sto} (h : Since S T) (h' : Since T U) : Since S U := by
  induction h' with
  | refl => exact h
  | step v t _ hv hl ih => exact .step v t ih hv hl
/-! ### New variables -/
def freshN : Nat → Sto → Sto
  | 0, S => S
  | k + 1, S => freshS (freshN k S)
theorem fresh_len (S : Sto) : (freshS S).cells.length = S.cells.length + 1 := by simp [freshS, addS]
theorem freshN_facts {S : Sto} (hI : Inv S) (hN : NoLk S) : ∀ k : Nat, (S.cells.length : Int) + k ≤ S.room → Inv (freshN k S) ∧ NoLk (freshN k S) ∧ (freshN k S).cells.length = S.cells.length + k ∧ (freshN k S).room = S.room ∧ (freshN k S).bonds = S.bonds ∧
    (∀ x, x < S.cells.length → (freshN k S).cells[x]? = S.cells[x]?) ∧ ∀ j, j < k → ∃ c, (freshN k S).cells[S.cells.length + j]? = some c ∧ c.k = 1 ∧ c.n = 0 ∧ c.s = ⟨#[]⟩ ∧ c.args = []
  | 0, h => ⟨hI, hN, rfl, rfl, rfl, fun _ _ => rfl, fun j hj => by omega⟩
  | k + 1, h => by
    obtain ⟨h1, h2, h3, h4, h5, h6, h7⟩ := freshN_facts hI hN k (by omega)
    have get : ∀ x, (freshN (k + 1) S).cells[x]? = if x < (freshN k S).cells.length then (freshN k S).cells[x]? else if x = (freshN k S).cells.length then some ⟨1, 0, ⟨#[]⟩, [], -1, lastTop (freshN k S).cells⟩ else none := fun x => by
      show ((freshN k S).cells ++ [_])[x]? = _
      by_cases hx : x < (freshN k S).cells.length
      · rw [if_pos hx, List.getElem?_append_left hx]
      · rw [if_neg hx, List.getElem?_append_right (by omega)]
        by_cases e : x = (freshN k S).cells.length
        · rw [if_pos e, e, Nat.sub_self]; rfl
        · rw [if_neg e, List.getElem?_eq_none]; simp; omega
    refine ⟨h1.fresh (by rw [h3, h4]; omega), h2.fresh, ?_, h4, h5, fun x hx => ?_, fun j hj => ?_⟩
    · show (freshS (freshN k S)).cells.length = _
      rw [fresh_len, h3]; omega
    · rw [get, if_pos (by omega)]; exact h6 x hx
    · rw [get]
      by_cases e : j < k
      · rw [if_pos (by omega)]; exact h7 j e
      · rw [if_neg (by omega), if_pos (by omega)]
        exact ⟨_, rfl, rfl, rfl, rfl, rfl⟩
/-- the chain: so many of the new variables are bound, each to the next -/
def chB (S : Sto) (n : Nat) : Nat → Sto
  | 0 => S
  | i + 1 => bindS (chB S n i) (n + i) (n + i + 1)
structure ChainIs (S : Sto) (n m i : Nat) (T : Sto) : Prop where
  inv : Inv T
  since : Since S T
  len : T.cells.length = n + m
  bonds : T.bonds.length = i
  fol : ∀ x, x < n + m → Tms.fol T x = if n ≤ x ∧ x ≤ n + i then n + i else x
  old : ∀ x, x < n → T.cells[x]? = S.cells[x]?
  kind : ∀ j, j < m → ∃ c, T.cells[n + j]? = some c ∧ c.k = 1 ∧ c.args = []
theorem ChainIs.free {S T : Sto} {n m i : Nat} (h : ChainIs S n m i T) {x : Nat} (hx : x < n + m) (hn : x < n ∨ n + i ≤ x) : ∃ h' : x < T.cells.length, (T.cells[x]).lk = -1 := by
  have hx' : x < T.cells.length := by rw [h.len]; exact hx
  refine ⟨hx', ?_⟩
  have e : Tms.fol T x = x := by
    rw [h.fol x hx]
    split
    · omega
    · rfl
  have := h.inv.fol_free hx'
  simp only [e] at this
  exact this
theorem ChainIs.k1 {S T : Sto} {n m i j : Nat} (h : ChainIs S n m i T) (hj : j < m) (h' : n + j < T.cells.length) : (T.cells[n + j]).k = 1 := by
  obtain ⟨c, hc, hk, -⟩ := h.kind j hj
  obtain ⟨hq, e⟩ := List.getElem?_eq_some_iff.1 hc
  rw [e]; exact hk
theorem chB_is {S : Sto} {n m : Nat} (hI : Inv S) (hN : NoLk S) (hl : S.cells.length = n + m) (hb : S.bonds = []) (hk : ∀ j, j < m → ∃ c, S.cells[n + j]? = some c ∧ c.k = 1 ∧ c.args = []) : ∀ i : Nat, i < m → ChainIs S n m i (chB S n i)
  | 0, hi => ⟨hI, .refl, hl, by show S.bonds.length = 0; rw [hb]; rfl, fun x hx => by
      show Tms.fol S x = _
      rw [hN.fol (by omega)]
      split
      · omega
      · rfl, fun _ _ => rfl, hk⟩
  | i + 1, hi => by
    have h := chB_is hI hN hl hb hk i (by omega)
    obtain ⟨hv, hvl⟩ := h.free (x := n + i) (by omega) (.inr (by omega))
    obtain ⟨ht, htl⟩ := h.free (x := n + i + 1) (by omega) (.inr (by omega))
    have hne : n + i ≠ n + i + 1 := by omega
    refine ⟨h.inv.bind hv ht hvl htl (h.k1 (by omega) hv) hne, .step _ _ h.since hv hvl, ?_, ?_, fun x hx => ?_, fun x hx => ?_, fun j hj => ?_⟩
    · exact (bind_len hv).trans h.len
    · show ((chB S n i).bonds ++ [_]).length = i + 1
      simp [h.bonds]
    · show Tms.fol (bindS (chB S n i) (n + i) (n + i + 1)) x = _
      rw [fol_bind h.inv hv ht hvl htl hne (by rw [h.len]; exact hx), h.fol x hx]
      by_cases e : n ≤ x ∧ x ≤ n + i
      · rw [if_pos e, if_pos rfl, if_pos (by omega)]; omega
      · rw [if_neg e]
        by_cases e2 : x = n + i + 1
        · rw [if_neg (by omega), if_pos (by omega), e2]; omega
        · rw [if_neg (by omega), if_neg (by omega)]
    · show (bindS (chB S n i) (n + i) (n + i + 1)).cells[x]? = _
      rw [bind_get hv, if_neg (by omega)]
      exact h.old x hx
    · show ∃ c, (bindS (chB S n i) (n + i) (n + i + 1)).cells[n + j]? = some c ∧ _
      rw [bind_get hv]
      by_cases e : n + i = n + j
      · rw [if_pos e]
        have : i = j := by omega
        subst this
        obtain ⟨c, hc, h1, h2⟩ := h.kind i hj
        obtain ⟨hq, e2⟩ := List.getElem?_eq_some_iff.1 hc
        exact ⟨_, rfl, by show ((chB S n i).cells[n + i]).k = 1; rw [e2]; exact h1, by show ((chB S n i).cells[n + i]).args = []; rw [e2]; exact h2⟩
      · rw [if_neg e]
        exact h.kind j hj
/-- one more of the chain's variables is bound -/
theorem chain_bind {S T : Sto} {n m i : Nat} (h : ChainIs S n m i T) (hi : i + 1 < m) : bindE T ((n + i : Nat) : Int) ((n + i + 1 : Nat) : Int) = 0 ∧ bindW T ((n + i : Nat) : Int) ((n + i + 1 : Nat) : Int) = bindS T (n + i) (n + i + 1) := by
  have hl := h.len
  have f1 : fol T (n + i) = n + i := by rw [h.fol _ (by omega), if_pos (by omega)]
  have f2 : fol T (n + i + 1) = n + i + 1 := by rw [h.fol _ (by omega), if_neg (by omega)]
  obtain ⟨c, hc, hk, -⟩ := h.kind i (by omega)
  have hck : (cellF T (n + i)).k = 1 := by unfold cellF; rw [f1, hc]; exact hk
  have hn : ¬ (¬ ((0 : Int) ≤ ((n + i : Nat) : Int) ∧ ((n + i : Nat) : Int) < T.cells.length) ∨ ¬ ((0 : Int) ≤ ((n + i + 1 : Nat) : Int) ∧ ((n + i + 1 : Nat) : Int) < T.cells.length)) := by omega
  constructor
  · unfold bindE
    rw [if_neg hn, Int.toNat_natCast, if_pos hck]
  · unfold bindW
    rw [if_neg hn, Int.toNat_natCast, Int.toNat_natCast, f1, f2, if_pos ⟨hck, by omega⟩]
/-- the chain's end is bound to a cell that was there -/
def chE (T : Sto) (n m : Nat) : Sto := bindS T (n + (m - 1)) 0
structure EndIs (S T : Sto) (n m : Nat) : Prop where
  be : bindE T (n : Nat) ((0 : Nat) : Int) = 0
  bw : bindW T (n : Nat) ((0 : Nat) : Int) = chE T n m
  inv : Inv (chE T n m)
  len : (chE T n m).cells.length = n + m
  fol : ∀ j, j < m → Tms.fol (chE T n m) (n + j) = 0
  fol0 : Tms.fol (chE T n m) 0 = 0
  old : ∀ x, x < n → (chE T n m).cells[x]? = S.cells[x]?
  undo : undoS (chE T n m) 0 = S
theorem end_is {S T : Sto} {n m : Nat} (hn : 0 < n) (hm : 0 < m) (hb : S.bonds = []) (h : ChainIs S n m (m - 1) T) : EndIs S T n m := by
  have hl := h.len
  obtain ⟨hv, hvl⟩ := h.free (x := n + (m - 1)) (by omega) (.inr (by omega))
  obtain ⟨ht, htl⟩ := h.free (x := 0) (by omega) (.inl hn)
  have f1 : fol T n = n + (m - 1) := by rw [h.fol _ (by omega), if_pos (by omega)]
  have f2 : fol T 0 = 0 := by rw [h.fol _ (by omega), if_neg (by omega)]
  obtain ⟨c, hc, hk, -⟩ := h.kind (m - 1) (by omega)
  have hck : (cellF T n).k = 1 := by unfold cellF; rw [f1, hc]; exact hk
  have hnb : ¬ (¬ ((0 : Int) ≤ ((n : Nat) : Int) ∧ ((n : Nat) : Int) < T.cells.length) ∨ ¬ ((0 : Int) ≤ ((0 : Nat) : Int) ∧ ((0 : Nat) : Int) < T.cells.length)) := by omega
  have hne : n + (m - 1) ≠ 0 := by omega
  refine ⟨?_, ?_, h.inv.bind hv ht hvl htl (h.k1 (by omega) hv) hne, (bind_len hv).trans hl, fun j hj => ?_, ?_, fun x hx => ?_, ?_⟩
  · unfold bindE
    rw [if_neg hnb, Int.toNat_natCast, if_pos hck]
  · unfold bindW
    rw [if_neg hnb, Int.toNat_natCast, Int.toNat_natCast, f1, f2, if_pos ⟨hck, by omega⟩]
    rfl
  · unfold chE
    rw [fol_bind h.inv hv ht hvl htl hne (by omega), h.fol _ (by omega), if_pos (show n ≤ n + j ∧ n + j ≤ n + (m - 1) by omega), if_pos rfl]
  · unfold chE
    rw [fol_bind h.inv hv ht hvl htl hne (by omega), f2, if_neg (by omega)]
  · unfold chE
    rw [bind_get hv, if_neg (by omega)]
    exact h.old x hx
  · have hs : Since S (chE T n m) := .step _ _ h.since hv hvl
    have := hs.undo
    rw [hb] at this
    exact this
end Go.Proofs.Ytoklbeogmcdgaaa.Tms
