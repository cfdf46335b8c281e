
/-
  The reference's size: how many parts, as far as that is counted.
  The reference's Get, plain: what it says is what the program's Get says.
  The reference's far, plain: paths of so many cells.
  The reference's far, plain: rows of cells, each once.
  The reference's far, walked: is a cell's term deeper than may be?
  The reference's tree: a cell's term.
  The reference's Get.
  Layer 8's store, plain: what the tops say, in every store; what undoing and cutting leave.
  The reference's Cut.
-/
import Derived.Test.YtoklbeogmcdgaaaRfh
import Derived.Test.YtoklbeogmcdgaaaGte
import Derived.Deep.DeepMust
import Derived.Test.YtoklbeogmcdgaaaPtn
import Derived.Test.YtoklbeogmcdgaaaSlb
import Derived.Test.YtoklbeogmcdgaaaRfa
namespace Go.Proofs.Ytoklbeogmcdgaaa.Tms
open Go Go.RowKit Go.Proofs.Ytoklbeogmcdgaaa.Reg Go.Proofs.Ytoklbeogmcdgaaa.Rws Go.Proofs.Ytoklbeogmcdgaaa.Maps
set_option linter.unusedVariables false
set_option linter.unusedSimpArgs false

/-- is there a path of more than so many cells? -/
noncomputable def deepB (S : Sto) : Nat → Nat → Bool
  | 0, _ => true
  | f + 1, x => (cellF S x).args.any fun a => deepB S f a.toNat
structure SameW (W0 u : World) : Prop where
  eq : u = W0
theorem SameW.me (W0 : World) : SameW W0 W0 := ⟨rfl⟩
end Go.Proofs.Ytoklbeogmcdgaaa.Tms
namespace Go.Proofs.Ytoklbeogmcdgaaa.Tms
open Go Go.RowKit Go.Proofs.Ytoklbeogmcdgaaa.Reg Go.Proofs.Ytoklbeogmcdgaaa.Rws Go.Proofs.Ytoklbeogmcdgaaa.Maps
set_option linter.unusedVariables false
set_option linter.unusedSimpArgs false

end Go.Proofs.Ytoklbeogmcdgaaa.Tms
namespace Go.Proofs.Ytoklbeogmcdgaaa.Tms
open Go Go.RowKit Go.Proofs.Ytoklbeogmcdgaaa.Reg Go.Proofs.Ytoklbeogmcdgaaa.Rws Go.Proofs.Ytoklbeogmcdgaaa.Maps
set_option linter.unusedVariables false
set_option linter.unusedSimpArgs false

/-- y is the end of a path of n + 1 cells from x, followed -/
def PathN (S : Sto) : Nat → Nat → Nat → Prop
  | 0, x, y => y = fol S x
  | n + 1, x, y => ∃ a ∈ (cellF S x).args, PathN S n a.toNat y
theorem deep_path (S : Sto) : ∀ (f x : Nat), deepB S f x = true ↔ ∃ y, PathN S f x y
  | 0, x => ⟨fun _ => ⟨_, rfl⟩, fun _ => rfl⟩
  | f + 1, x => by
    show (cellF S x).args.any (fun a => deepB S f a.toNat) = true ↔ _
    rw [List.any_eq_true]
    constructor
    · rintro ⟨a, h1, h2⟩
      obtain ⟨y, hy⟩ := (deep_path S f a.toNat).1 h2
      exact ⟨y, a, h1, hy⟩
    · rintro ⟨y, a, h1, h2⟩
      exact ⟨a, h1, (deep_path S f a.toNat).2 ⟨y, h2⟩⟩
/-- one cell more, at the end -/
theorem path_snoc {S : Sto} (hI : Inv S) : ∀ (n x : Nat), x < S.cells.length → ∀ z, PathN S (n + 1) x z ↔ ∃ y, PathN S n x y ∧ ∃ a ∈ (cellF S y).args, z = fol S a.toNat
  | 0, x, hx, z => by
    have hc := (cellF_root hI.stoIn hx).2
    constructor
    · rintro ⟨a, h1, h2⟩
      exact ⟨fol S x, rfl, a, by rw [hc]; exact h1, h2⟩
    · rintro ⟨y, rfl, a, h1, h2⟩
      rw [hc] at h1
      exact ⟨a, h1, h2⟩
  | n + 1, x, hx, z => by
    have hargs : ∀ a ∈ (cellF S x).args, a.toNat < S.cells.length := fun a ha => by
      obtain ⟨f, -, hg⟩ := hI.stoIn.fol hx
      have := (hI.cell _ _ hg).args a ha
      omega
    constructor
    · rintro ⟨a, h1, h2⟩
      obtain ⟨y, h3, h4⟩ := (path_snoc hI n a.toNat (hargs a h1) z).1 h2
      exact ⟨y, ⟨a, h1, h3⟩, h4⟩
    · rintro ⟨y, ⟨a, h1, h3⟩, h4⟩
      exact ⟨a, h1, (path_snoc hI n a.toNat (hargs a h1) z).2 ⟨y, h3, h4⟩⟩
end Go.Proofs.Ytoklbeogmcdgaaa.Tms
namespace Go.Proofs.Ytoklbeogmcdgaaa.Tms
open Go Go.RowKit Go.Proofs.Ytoklbeogmcdgaaa.Reg Go.Proofs.Ytoklbeogmcdgaaa.Rws Go.Proofs.Ytoklbeogmcdgaaa.Maps
set_option linter.unusedVariables false
set_option linter.unusedSimpArgs false

/-- the cells that a cell's Args are, followed -/
noncomputable def kidsF (S : Sto) (y : Nat) : List Nat := (cellF S y).args.map fun a => fol S a.toNat
/-- the cells met so far in a row: P with repeats, X each once, DL the marks -/
structure Mk (N n : Nat) (P : List Nat) (DL : List Int) (X : List Nat) : Prop where
  mem : ∀ y, y ∈ X ↔ y ∈ P
  nd : X.Nodup
  len : DL.length = N
  le : ∀ (c : Nat) (h : c < DL.length), 0 ≤ DL[c] ∧ DL[c] ≤ n ∧ (DL[c] = n ↔ c ∈ P)
  lt : ∀ y ∈ P, y < N
theorem nodupF_len : ∀ (l m : List Nat), l.Nodup → (∀ x ∈ l, x ∈ m) → l.length ≤ m.length
  | [], m, _, _ => by simp
  | a :: l, m, h, hs => by
    rw [List.nodup_cons] at h
    have ha := hs a (by simp)
    have h1 := nodupF_len l (m.erase a) h.2 fun x hx => by
      have hne : x ≠ a := fun e => h.1 (e ▸ hx)
      exact (List.mem_erase_of_ne hne).2 (hs x (by simp [hx]))
    rw [List.length_erase_of_mem ha] at h1
    have : 0 < m.length := List.length_pos_of_mem ha
    rw [List.length_cons]
    omega
theorem Mk.small {N n : Nat} {P : List Nat} {DL : List Int} {X : List Nat} (h : Mk N n P DL X) : X.length ≤ N := by
  have := nodupF_len X (List.range N) h.nd fun x hx => List.mem_range.2 (h.lt x ((h.mem x).1 hx))
  rwa [List.length_range] at this
theorem Mk.new {N n : Nat} {P : List Nat} {DL : List Int} {X : List Nat} (h : Mk N n P DL X) {f : Nat} (hf : f < DL.length) (hd : DL[f] < n) : Mk N n (P ++ [f]) (DL.set f n) (X ++ [f]) := by
  have hl := h.len
  have hnp : f ∉ P := fun e => by have := ((h.le f hf).2.2).2 e; omega
  refine ⟨fun y => by simp [h.mem y], ?_, by simp [hl], fun c hc => ?_, fun y hy => ?_⟩
  · rw [List.nodup_append]
    refine ⟨h.nd, by simp, fun a ha b hb => ?_⟩
    simp only [List.mem_singleton] at hb
    subst hb
    intro e
    subst e
    exact hnp ((h.mem a).1 ha)
  · rw [List.length_set] at hc
    rw [List.getElem_set]
    by_cases e : f = c
    · subst e
      simp
    · rw [if_neg e]
      obtain ⟨h1, h2, h3⟩ := h.le c hc
      refine ⟨h1, h2, h3.trans ?_⟩
      simp only [List.mem_append, List.mem_singleton]
      exact ⟨.inl, fun h => h.resolve_right fun e' => e e'.symm⟩
  · simp only [List.mem_append, List.mem_singleton] at hy
    rcases hy with hy | rfl
    · exact h.lt y hy
    · omega
theorem Mk.old {N n : Nat} {P : List Nat} {DL : List Int} {X : List Nat} (h : Mk N n P DL X) {f : Nat} (hf : f < DL.length) (hd : ¬ DL[f] < n) : Mk N n (P ++ [f]) DL X := by
  obtain ⟨h1, h2, h3⟩ := h.le f hf
  have hp : f ∈ P := h3.1 (by omega)
  refine ⟨fun y => ?_, h.nd, h.len, fun c hc => ?_, fun y hy => ?_⟩
  · rw [h.mem y]
    simp only [List.mem_append, List.mem_singleton]
    exact ⟨.inl, fun e => e.elim id fun e => e ▸ hp⟩
  · obtain ⟨h1, h2, h3⟩ := h.le c hc
    refine ⟨h1, h2, h3.trans ?_⟩
    simp only [List.mem_append, List.mem_singleton]
    exact ⟨.inl, fun e => e.elim id fun e => e ▸ hp⟩
  · simp only [List.mem_append, List.mem_singleton] at hy
    rcases hy with hy | rfl
    · exact h.lt y hy
    · exact h.lt _ hp
/-- the row of all cells that are ends of paths of n cells -/
structure RowN (S : Sto) (x n : Nat) (R : List Nat) (DL : List Int) : Prop where
  mem : ∀ y, y ∈ R ↔ PathN S n x y
  lt : ∀ y ∈ R, y < S.cells.length
  len : R.length ≤ S.cells.length
  dl : DL.length = S.cells.length
  le : ∀ (c : Nat) (h : c < DL.length), 0 ≤ DL[c] ∧ DL[c] < (n + 1 : Nat)
theorem RowN.first {S : Sto} (hI : Inv S) {x : Nat} (hx : x < S.cells.length) : RowN S x 0 [fol S x] (List.replicate S.cells.length 0) :=
  ⟨fun y => by simp [PathN], fun y hy => by
    simp only [List.mem_singleton] at hy
    subst hy
    obtain ⟨f, hc, -⟩ := hI.stoIn.fol hx
    exact hc.end_.1, by simp; omega, by simp, fun c h => by simp⟩
theorem Mk.row {S : Sto} (hI : Inv S) {x n : Nat} (hx : x < S.cells.length) {R : List Nat} {DL DL' : List Int} {X : List Nat} (hr : RowN S x n R DL) (h : Mk S.cells.length (n + 1) (R.flatMap (kidsF S)) DL' X) : RowN S x (n + 1) X DL' := by
  refine ⟨fun y => ?_, fun y hy => h.lt y ((h.mem y).1 hy), h.small, h.len, fun c hc => by obtain ⟨h1, h2, -⟩ := h.le c hc; exact ⟨h1, by omega⟩⟩
  rw [h.mem y, path_snoc hI n x hx y, List.mem_flatMap]
  constructor
  · rintro ⟨c, h1, h2⟩
    unfold kidsF at h2
    obtain ⟨a, h3, h4⟩ := List.mem_map.1 h2
    exact ⟨c, (hr.mem c).1 h1, a, h3, h4.symm⟩
  · rintro ⟨c, h1, a, h3, h4⟩
    exact ⟨c, (hr.mem c).2 h1, List.mem_map.2 ⟨a, h3, h4.symm⟩⟩
theorem RowN.more {S : Sto} {x n : Nat} {R : List Nat} {DL : List Int} (h : RowN S x n R DL) (h0 : 0 < R.length) : deepB S n x = true := by
  refine (deep_path S n x).2 ⟨R[0], (h.mem _).1 (List.getElem_mem h0)⟩
end Go.Proofs.Ytoklbeogmcdgaaa.Tms
namespace Go.Proofs.Ytoklbeogmcdgaaa.Tms
open Go Go.RowKit Go.Proofs.Ytoklbeogmcdgaaa.Reg Go.Proofs.Ytoklbeogmcdgaaa.Rws Go.Proofs.Ytoklbeogmcdgaaa.Maps
set_option linter.unusedVariables false
set_option linter.unusedSimpArgs false

def isN (R : List Nat) : List Int := R.map fun y : Nat => (y : Int)
theorem isN_snoc (R : List Nat) (y : Nat) : isN R ++ [(y : Int)] = isN (R ++ [y]) := by simp [isN]
theorem IFill.zero {w : World} {g n B : Nat} (h : w.ownsRow B 3 1 (.slice (some ⟨g, 0, none⟩) n n) n ((madeCells #[Value.int .i64 0] (n * 1)).toList)) : IFill w g n (List.replicate n 0) := by
  obtain ⟨-, ⟨e, -⟩ | ⟨g', cap, cur, e, -, hg, -, -, hs, ht⟩⟩ := h
  · cases e
  · simp only [Value.slice.injEq, Option.some.injEq, Addr.mk.injEq, and_true, true_and] at e
    obtain ⟨rfl, rfl⟩ := e
    refine ⟨⟨cur, hg, by omega⟩, fun i hi => ?_⟩
    rw [List.length_replicate] at hi
    rw [cell_of_row _ _ _ _ _ _ hg, List.getElem_replicate]
    rw [List.take_of_length_le (by simp; omega)] at ht
    have h1 : cur = madeCells #[Value.int .i64 0] (n * 1) := Array.toList_inj.1 ht
    rw [h1]
    have h2 : i < (madeCells #[Value.int .i64 0] (n * 1)).size := by rw [size_madeCells]; omega
    rw [Array.getElem?_eq_getElem h2]
    simp [madeCells, Nat.mod_one]
theorem IFill.set {w : World} {g n : Nat} {L : List Int} (h : IFill w g n L) {f : Nat} (hn : f < n) (x : Int) :
    w.frozen? ⟨g, f, none⟩ = false ∧ IFill (w.setCell ⟨g, f, none⟩ (.int .i64 x)) g n (L.set f x) := by
  obtain ⟨cs, h1, h2⟩ := h.row
  have e1 := heap_setCell_same w g f _ _ (.int .i64 x) h1
  refine ⟨frozen_of_row w g f _ _ h1, ⟨⟨_, e1, by simp [h2]⟩, fun i hi => ?_⟩⟩
  rw [List.length_set] at hi
  rw [cell_of_row _ g i _ _ _ e1, Array.getElem?_setIfInBounds, List.getElem_set]
  by_cases e : f = i
  · subst e
    rw [if_pos rfl, if_pos (by omega), if_pos rfl]
  · rw [if_neg e, if_neg e, ← cell_of_row w g i _ _ _ h1]
    exact h.got i hi
/-- what far keeps in memory: the marks, a row that is read, a row that grows -/
structure FarAt (w : World) (dd : Nat) (DL : List Int) (rv : Value) (R : List Nat) (nv : Value) (X : List Nat) (wr : World) : Prop where
  dl : IFill wr dd DL.length DL
  row : IntSl wr (fun b => dd < b ∧ nv.ownBlock ≠ some b ∧ b < wr.heap.size) rv (isN R)
  nx : Own iKind wr (dd + 1) (fun _ => False) nv (isN X)
  bel : Below dd w wr
section
variable {w wr u w3 : World} {dd : Nat} {DL : List Int} {rv nv : Value} {R X : List Nat}
theorem FarAt.below (h : FarAt w dd DL rv R nv X wr) (hu : Below wr.heap.size wr u) : FarAt w dd DL rv R nv X u := by
  have hl := h.dl.lt
  exact ⟨h.dl.keep (hu.block dd hl), h.row.move (fun b hb hlt => ⟨hb.1, hb.2.1, by have := hu.size; omega⟩) fun b _ hlt => hu.block b hlt, Own.below h.nx hu, h.bel.trans (hu.mono (by omega))⟩
theorem FarAt.set (h : FarAt w dd DL rv R nv X wr) {f : Nat} (hf : f < DL.length) (x : Int) : wr.frozen? ⟨dd, f, none⟩ = false ∧ FarAt w dd (DL.set f x) rv R nv X (wr.setCell ⟨dd, f, none⟩ (.int .i64 x)) := by
  obtain ⟨h1, h2⟩ := h.dl.set hf x
  have hsz : (wr.setCell ⟨dd, f, none⟩ (.int .i64 x)).heap.size = wr.heap.size := by simp [World.setCell]
  refine ⟨h1, by rw [List.length_set]; exact h2, h.row.move (fun b hb hlt => by rw [hsz]; exact hb) fun b hb _ => Below.heap_setCell _ _ _ _ (by show b ≠ dd; have := hb.1; omega), h.nx.keep (by rw [hsz]; exact Nat.le_refl _) fun b hlt hb => Below.heap_setCell _ _ _ _ ?_, h.bel.setCell (Nat.le_refl _) _⟩
  rcases hb with e | e
  · exact e.elim
  · have := (h.nx.low b e).1
    show b ≠ dd
    omega
theorem FarAt.put {y : Nat} {v3 : Value} (h : FarAt w dd DL rv R nv X wr) (hu : Below wr.heap.size wr u) (ho : Own iKind w3 (dd + 1) (fun _ => False) v3 (isN X ++ [(y : Int)])) (hg : u.grownBy w3 nv.ownBlock) (hv : ∀ k, v3.ownBlock = some k → nv.ownBlock = some k ∨ u.heap.size ≤ k) : FarAt w dd DL rv R v3 (X ++ [y]) w3 := by
  have hl := h.dl.lt
  have hz := hu.size
  have hz3 := hg.size
  have hnl : ∀ k, nv.ownBlock = some k → dd + 1 ≤ k := fun k e => (h.nx.low k e).1
  rw [isN_snoc] at ho
  refine ⟨h.dl.keep ((hg.block dd (by omega) fun e => by have := hnl dd e.symm; omega).trans (hu.block dd hl)), h.row.move (fun b hb hlt => ⟨hb.1, fun e => ?_, by omega⟩) fun b hb hlt => (hg.block b (by omega) fun e => hb.2.1 e.symm).trans (hu.block b hlt), ho, (h.bel.trans (hu.mono (by omega))).grown hg (by omega) fun k e => by have := hnl k e; omega⟩
  rcases hv b e with e | e
  · exact hb.2.1 e
  · omega
theorem FarAt.swap (h : FarAt w dd DL rv R nv X wr) : FarAt w dd DL nv X (.slice none 0 0) [] wr := by
  refine ⟨h.dl, (own_is h.nx).low.move (fun b hb hlt => ⟨by have := hb.1.2; omega, by simp [Value.ownBlock], hlt⟩) fun _ _ _ => rfl, Own.nil _ _ _, h.bel⟩
theorem FarAt.fresh (h : FarAt w dd DL rv R nv X wr) : FarAt w dd DL rv R (.slice none 0 0) [] wr := by
  refine ⟨h.dl, h.row.move (fun b hb hlt => ⟨hb.1, by simp [Value.ownBlock], hlt⟩) fun _ _ _ => rfl, Own.nil _ _ _, h.bel⟩
end
theorem path_root {S : Sto} (hI : Inv S) : ∀ (n x y : Nat), x < S.cells.length → PathN S n x y → ∃ z, z < S.cells.length ∧ y = fol S z
  | 0, x, y, hx, h => ⟨x, hx, h⟩
  | n + 1, x, y, hx, h => by
    obtain ⟨a, h1, h2⟩ := h
    obtain ⟨f, -, hg⟩ := hI.stoIn.fol hx
    have := (hI.cell _ _ hg).args a h1
    exact path_root hI n a.toNat y (by omega) h2
theorem RowN.cell {S : Sto} (hI : Inv S) {x n : Nat} (hx : x < S.cells.length) {R : List Nat} {DL : List Int} (h : RowN S x n R DL) {y : Nat} (hy : y ∈ R) : S.cells[y]? = some (cellF S y) := by
  obtain ⟨z, hz, rfl⟩ := path_root hI n x y hx ((h.mem y).1 hy)
  obtain ⟨f, -, hg⟩ := hI.stoIn.fol hz
  rw [hg, (cellF_root hI.stoIn hz).2]
end Go.Proofs.Ytoklbeogmcdgaaa.Tms
namespace Go.Proofs.Ytoklbeogmcdgaaa.Tms
open Go Go.RowKit Go.Proofs.Ytoklbeogmcdgaaa.Reg Go.Proofs.Ytoklbeogmcdgaaa.Rws Go.Proofs.Ytoklbeogmcdgaaa.Maps
set_option linter.unusedVariables false
set_option linter.unusedSimpArgs false

/-- so many Args are told -/
structure TrAt (w6 : World) (r : Nat) (sh : Tm) (L : List Tm) (i : Nat) (q : Option Addr) (c : Nat) (wr : World) : Prop where
  row : wr.heap[r]? = some (.cells #[.int .i64 sh.k, .int .i64 sh.n, .string sh.s, .slice q i c] 33 (0, 0))
  own : Own tmKind wr (r + 1) (fun b => r + 1 ≤ b) (.slice q i c) (L.take i)
  bel : Below r w6 wr
theorem TrAt.below {w6 wr u : World} {r i c : Nat} {sh : Tm} {L : List Tm} {q : Option Addr} (h : TrAt w6 r sh L i q c wr) (hu : Below wr.heap.size wr u) : TrAt w6 r sh L i q c u := by
  have hl : r < wr.heap.size := (Array.getElem?_eq_some_iff.1 h.row).1
  exact ⟨(hu.block r hl).trans h.row, Own.below h.own hu, h.bel.trans (hu.mono (by omega))⟩
theorem TrAt.put {w6 u w3 : World} {r i c : Nat} {sh : Tm} {L : List Tm} {q : Option Addr} {v3 : Value} (h : TrAt w6 r sh L i q c u) (hi : i < L.length) (ho : Own tmKind w3 (r + 1) (fun b => r + 1 ≤ b) v3 (L.take i ++ [L[i]])) (hg : u.grownBy w3 (Value.slice q i c).ownBlock) :
    (w3.cell? ⟨r, 3, none⟩ = some (.slice q i c) ∧ w3.frozen? ⟨r, 3, none⟩ = false) ∧ ∃ q3 c3, v3 = .slice q3 (i + 1) c3 ∧ TrAt w6 r sh L (i + 1) q3 c3 (w3.setCell ⟨r, 3, none⟩ v3) := by
  have hl : r < u.heap.size := (Array.getElem?_eq_some_iff.1 h.row).1
  have hr3 := (hg.block r hl (fun e => by have := (h.own.low r e.symm).1; omega)).trans h.row
  rw [← List.take_succ_eq_append_getElem hi] at ho
  have hlen : (L.take (i + 1)).length = i + 1 := by rw [List.length_take]; omega
  obtain ⟨q3, c3, rfl⟩ := own_form ho
  rw [hlen] at ho ⊢
  have e1 := heap_setCell_same w3 r 3 _ _ (.slice q3 (i + 1) c3) hr3
  refine ⟨⟨cell_of_row w3 r 3 _ _ _ hr3, frozen_of_row w3 r 3 _ _ hr3⟩, q3, c3, rfl, by simpa using e1, ho.keep (by simp [World.setCell]) fun b hb he => Below.heap_setCell _ _ _ _ ?_, ?_⟩
  · rcases he with e | e
    · show b ≠ r
      have e' : r + 1 ≤ b := e
      omega
    · have := (ho.low b e).1
      show b ≠ r
      omega
  · exact (h.bel.grown hg (by have := h.bel.size; omega) fun k e => by have := (h.own.low k e).1; omega).setCell (Nat.le_refl _) _
end Go.Proofs.Ytoklbeogmcdgaaa.Tms
namespace Go.Proofs.Ytoklbeogmcdgaaa.Tms
open Go Go.RowKit Go.Proofs.Ytoklbeogmcdgaaa.Reg Go.Proofs.Ytoklbeogmcdgaaa.Rws Go.Proofs.Ytoklbeogmcdgaaa.Maps
set_option linter.unusedVariables false
set_option linter.unusedSimpArgs false

end Go.Proofs.Ytoklbeogmcdgaaa.Tms
namespace Go.Proofs.Ytoklbeogmcdgaaa.Tms
open Go Go.RowKit Go.Proofs.Ytoklbeogmcdgaaa.Reg Go.Proofs.Ytoklbeogmcdgaaa.Rws Go.Proofs.Ytoklbeogmcdgaaa.Maps
set_option linter.unusedVariables false
set_option linter.unusedSimpArgs false

def lkv (l : List SCell) (x : Int) : Int := match l[x.toNat]? with
  | none => -1
  | some c => c.lk
def Topped : Int → List SCell → Prop
  | _, [] => True
  | T, c :: l => c.top = maxA T c.args ∧ Topped c.top l
def BTop (f : Int → Int) : Int → List (Int × Int) → Prop
  | _, [] => True
  | T, b :: l => b.2 = max (max b.1 (f b.1)) T ∧ BTop f b.2 l
def endT (T : Int) (l : List SCell) : Int := match l.getLast? with
  | none => T
  | some c => c.top
def endB (T : Int) (l : List (Int × Int)) : Int := match l.getLast? with
  | none => T
  | some b => b.2
theorem endT_cons (T : Int) (c : SCell) (l : List SCell) : endT T (c :: l) = endT c.top l := by
  unfold endT
  cases l with
  | nil => rfl
  | cons d l => rw [List.getLast?_cons_cons, List.getLast?_eq_some_getLast (by simp)]
theorem endB_cons (T : Int) (c : Int × Int) (l : List (Int × Int)) : endB T (c :: l) = endB c.2 l := by
  unfold endB
  cases l with
  | nil => rfl
  | cons d l => rw [List.getLast?_cons_cons, List.getLast?_eq_some_getLast (by simp)]
theorem Topped.app : ∀ {l : List SCell} {m : List SCell} {T : Int}, Topped T (l ++ m) ↔ Topped T l ∧ Topped (endT T l) m
  | [], m, T => by simp [Topped, endT]
  | c :: l, m, T => by
    rw [List.cons_append]
    simp only [Topped]
    rw [Topped.app (l := l), endT_cons, and_assoc]
theorem BTop.app {f : Int → Int} : ∀ {l : List (Int × Int)} {m : List (Int × Int)} {T : Int}, BTop f T (l ++ m) ↔ BTop f T l ∧ BTop f (endB T l) m
  | [], m, T => by simp [BTop, endB]
  | c :: l, m, T => by
    rw [List.cons_append]
    simp only [BTop]
    rw [BTop.app (l := l), endB_cons, and_assoc]
theorem Topped.fix : ∀ (l : List SCell) (T : Int), Topped T (fixTop T l)
  | [], T => trivial
  | c :: l, T => ⟨rfl, Topped.fix l _⟩
theorem Topped.congr : ∀ {l m : List SCell} {T : Int}, l.map (fun c => (c.args, c.top)) = m.map (fun c => (c.args, c.top)) → Topped T l → Topped T m
  | [], [], T, _, h => h
  | [], _ :: _, _, e, _ => by simp at e
  | _ :: _, [], _, e, _ => by simp at e
  | c :: l, d :: m, T, e, h => by
    simp only [List.map_cons, List.cons.injEq, Prod.mk.injEq] at e
    refine ⟨by rw [← e.1.2, ← e.1.1]; exact h.1, ?_⟩
    rw [← e.1.2]
    exact Topped.congr e.2 h.2
theorem BTop.congr {f g : Int → Int} : ∀ {l : List (Int × Int)} {T : Int}, (∀ b ∈ l, f b.1 = g b.1) → BTop f T l → BTop g T l
  | [], T, _, h => h
  | c :: l, T, e, h => ⟨by rw [← e c (by simp)]; exact h.1, BTop.congr (fun b hb => e b (by simp [hb])) h.2⟩
theorem map_setlk {l : List SCell} {v : Nat} (hv : v < l.length) (x : Int) : (l.set v { l[v] with lk := x }).map (fun c => (c.args, c.top)) = l.map (fun c => (c.args, c.top)) := by
  rw [List.map_set]
  have : (l.map fun c => (c.args, c.top))[v]'(by simpa using hv) = (l[v].args, l[v].top) := by simp
  rw [← this, List.set_getElem_self]
/-- what the tops say -/
structure Tops (S : Sto) : Prop where
  cells : Topped (-1) S.cells
  bonds : BTop (lkv S.cells) (-1) S.bonds
  all : ∀ (x : Nat) (c : SCell), S.cells[x]? = some c → 0 ≤ c.lk → ∃ b ∈ S.bonds, b.1 = (x : Int)
theorem lkv_at {l : List SCell} {x : Nat} {c : SCell} (h : l[x]? = some c) : lkv l x = c.lk := by
  unfold lkv
  rw [Int.toNat_natCast, h]
theorem Tops.new (n : Int) : Tops ⟨n, [], []⟩ := ⟨trivial, trivial, fun x c h => by simp at h⟩
theorem Tops.plus {S : Sto} (h : Tops S) (hI : Inv S) {l : List SCell} (hT : Topped (lastTop S.cells) l) (hl : ∀ c ∈ l, c.lk = -1) : Tops (plusS S l) := by
  refine ⟨Topped.app.2 ⟨h.cells, hT⟩, h.bonds.congr fun b hb => ?_, fun x c hc h0 => ?_⟩
  · obtain ⟨v, c, e, hc, -⟩ := hI.bond b hb
    rw [e, lkv_at hc]
    refine (lkv_at (c := c) ?_).symm
    show (S.cells ++ l)[v]? = some c
    rw [List.getElem?_append_left (List.getElem?_eq_some_iff.1 hc).1]
    exact hc
  · have hc : (S.cells ++ l)[x]? = some c := hc
    by_cases hx : x < S.cells.length
    · rw [List.getElem?_append_left hx] at hc
      exact h.all x c hc h0
    · rw [List.getElem?_append_right (by omega)] at hc
      have := hl c (List.mem_of_getElem? hc)
      omega
theorem Tops.fresh {S : Sto} (h : Tops S) (hI : Inv S) : Tops (freshS S) :=
  h.plus hI (l := [⟨1, 0, ⟨#[]⟩, [], -1, lastTop S.cells⟩]) ⟨rfl, trivial⟩ (by simp)
theorem Tops.putW {S : Sto} (h : Tops S) (hI : Inv S) (M : List (Int × Int)) (t : Tm) : Tops (Tms.putW S M t) := by
  unfold Tms.putW
  split
  · exact h
  · split
    · exact h
    · split
      · exact h
      · rename_i h1 h2 h3
        have h2' : (cntM S M t).1 = true := by simpa using h2
        have hp : MayPut S M t := ⟨by simpa using h1, h2', by unfold cntM at h3; omega⟩
        refine h.plus hI (Topped.fix _ _) fun c hc => ?_
        obtain ⟨d, hd, he⟩ := fixTop_mem hc
        have := hp.ok.2.1 d hd
        rw [he.2.2.2.2]
        exact this.2
theorem setTo_get {S : Sto} {v : Nat} {x : Int} (hv : v < S.cells.length) {y : Nat} {c : SCell} (h : (setTo S v x)[y]? = some c) : (y ≠ v ∧ S.cells[y]? = some c) ∨ (y = v ∧ c = { S.cells[v] with lk := x }) := by
  rw [setTo_at hv, List.getElem?_set] at h
  by_cases e : v = y
  · subst e; rw [if_pos rfl, if_pos hv] at h; exact .inr ⟨rfl, (Option.some.inj h).symm⟩
  · rw [if_neg e] at h; exact .inl ⟨fun h => e h.symm, h⟩
theorem setTo_other {S : Sto} {v : Nat} {x : Int} (hv : v < S.cells.length) {y : Nat} (h : y ≠ v) : (setTo S v x)[y]? = S.cells[y]? := by
  rw [setTo_at hv, List.getElem?_set, if_neg (fun e => h e.symm)]
theorem setTo_same {S : Sto} {v : Nat} {x : Int} (hv : v < S.cells.length) : (setTo S v x)[v]? = some { S.cells[v] with lk := x } := by
  rw [setTo_at hv, List.getElem?_set, if_pos rfl, if_pos hv]
theorem Tops.bind {S : Sto} (h : Tops S) (hI : Inv S) {v t : Nat} (hv : v < S.cells.length) (hvl : (S.cells[v]).lk = -1) : Tops (bindS S v t) := by
  have hne : ∀ b ∈ S.bonds, b.1 ≠ (v : Int) := fun b hb e => by
    obtain ⟨u, c, e1, hcu, h0⟩ := hI.bond b hb
    have : u = v := by omega
    subst this
    rw [List.getElem?_eq_getElem hv] at hcu
    rw [← Option.some.inj hcu, hvl] at h0
    omega
  have hlv : lkv (setTo S v t) v = (t : Int) := lkv_at (setTo_same hv)
  refine ⟨h.cells.congr ?_, BTop.app.2 ⟨h.bonds.congr fun b hb => ?_, ?_, trivial⟩, fun x c hc h0 => ?_⟩
  · show _ = (setTo S v t).map _
    rw [setTo_at hv, map_setlk hv]
  · obtain ⟨u, c, e1, hcu, h0⟩ := hI.bond b hb
    have hu : u ≠ v := fun e => hne b hb (by rw [e1, e])
    rw [e1, lkv_at hcu]
    exact (lkv_at (c := c) ((setTo_other hv hu).trans hcu)).symm
  · show topB S.bonds (max v t) = max (max (v : Int) (lkv (setTo S v t) v)) (endB (-1) S.bonds)
    rw [hlv]
    unfold topB endB
    cases S.bonds.getLast? with
    | none => simp only; omega
    | some b => simp only
  · rcases setTo_get hv hc with ⟨-, h1⟩ | ⟨rfl, rfl⟩
    · obtain ⟨b, hb, e⟩ := h.all x c h1 h0
      exact ⟨b, List.mem_append.2 (.inl hb), e⟩
    · exact ⟨((x : Int), topB S.bonds (max x t)), List.mem_append.2 (.inr (by simp)), rfl⟩
theorem Tops.bindW {S : Sto} (h : Tops S) (hI : Inv S) (x y : Int) : Tops (Tms.bindW S x y) := by
  unfold Tms.bindW
  by_cases hn : ¬ (0 ≤ x ∧ x < S.cells.length) ∨ ¬ (0 ≤ y ∧ y < S.cells.length)
  · rw [if_pos hn]; exact h
  · rw [if_neg hn]
    have hx : x.toNat < S.cells.length := by omega
    split
    · exact h.bind hI (hI.fol_lt hx) (hI.fol_free hx)
    · exact h
end Go.Proofs.Ytoklbeogmcdgaaa.Tms
namespace Go.Proofs.Ytoklbeogmcdgaaa.Tms
open Go Go.RowKit Go.Proofs.Ytoklbeogmcdgaaa.Reg Go.Proofs.Ytoklbeogmcdgaaa.Rws Go.Proofs.Ytoklbeogmcdgaaa.Maps
set_option linter.unusedVariables false
set_option linter.unusedSimpArgs false

theorem Each.take {α : Type} {K : Rws.Kind α} {w : World} {P : Nat → Prop} : ∀ (k : Nat) {xss : List (List Value)} {l : List α}, Each K w P xss l → Each K w P (xss.take k) (l.take k)
  | 0, _, _, _ => trivial
  | k + 1, [], [], _ => trivial
  | k + 1, [], _ :: _, h => h.elim
  | k + 1, _ :: _, [], h => h.elim
  | k + 1, _ :: _, _ :: _, h => ⟨h.1, Each.take k h.2⟩
end Go.Proofs.Ytoklbeogmcdgaaa.Tms
