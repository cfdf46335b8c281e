/-
  A code for the program out of the reference's, and back: what To and From come to, walked over the program.
-/
import Derived.Test.YtlndoogiflcoeaaCodW7
namespace Go.Proofs.Ytlndoogiflcoeaa.Cod
open Go Go.RowKit Go.Proofs.Ytlndoogiflcoeaa.Reg

def Ins.cells (i : Ins) : List Value := [.int .i64 i.op, .int .i64 i.a, .int .i64 i.n, .string i.s]
def flat (L : List Ins) : List Value := L.flatMap Ins.cells
theorem flat_len (L : List Ins) : (flat L).length = L.length * 4 := by
  induction L with
  | nil => rfl
  | cons i L ih => simp only [flat, List.flatMap_cons, List.length_append, List.length_cons] at ih ⊢; rw [ih]; simp [Ins.cells]; omega
theorem flat_get : ∀ (L : List Ins) (j q : Nat) (h : j < L.length), q < 4 → (flat L)[j * 4 + q]? = (L[j].cells)[q]?
  | i :: L, 0, q, h, hq => by
    show (i.cells ++ flat L)[0 * 4 + q]? = _
    rw [List.getElem?_append_left (by simp [Ins.cells]; omega)]
    simp
  | i :: L, j + 1, q, h, hq => by
    show (i.cells ++ flat L)[(j + 1) * 4 + q]? = _
    rw [List.getElem?_append_right (by simp [Ins.cells]; omega), show (j + 1) * 4 + q - i.cells.length = j * 4 + q from by simp [Ins.cells]; omega]
    exact flat_get L j q (by simpa using h) hq
theorem flat_snoc (L : List Ins) (k : Nat) (h : k < L.length) : flat (L.take (k + 1)) = flat (L.take k) ++ L[k].cells := by
  rw [List.take_succ_eq_append_getElem h]; unfold flat; rw [List.flatMap_append, List.flatMap_cons, List.flatMap_nil, List.append_nil]
theorem cells_one (i : Ins) : ∀ u ∈ i.cells, u.oneCell' = true := by
  intro u hu; simp [Ins.cells] at hu; rcases hu with rfl | rfl | rfl | rfl <;> rfl
theorem cells_new (w : World) (cs : Array Value) (t : TypeId) : ∀ j u, cs.toList[j]? = some u → (w.alloc (.cells cs t)).cell? ((⟨w.heap.size, 0, none⟩ : Addr).add j) = some u := by
  intro j u hu
  rw [Addr.add_lit, World.cell?_alloc_at _ _ _ _ rfl]
  simpa using hu
theorem cells_at (w : World) (cs : Array Value) (t : TypeId) {n : Nat} (hn : n = w.heap.size) : ∀ j u, cs.toList[j]? = some u → (w.alloc (.cells cs t)).cell? ((⟨n, 0, none⟩ : Addr).add j) = some u := by
  subst hn; exact cells_new w cs t
theorem insSl_of_owns {w : World} {base : Nat} {e : TypeId} {v : Value} {L : List Ins} (h : w.ownsRow base e 4 v L.length (flat L)) : InsSl w v L := by
  rcases h.2 with ⟨rfl, h0⟩ | ⟨g, cap, cur, rfl, _, hg, _, _, _, ht⟩
  · obtain rfl := List.length_eq_zero_iff.1 h0
    exact InsSl.nil _ _ _
  · refine ⟨_, cap, rfl, fun j hj => ⟨g, 0, rfl, ?_⟩⟩
    have key : ∀ q, q < 4 → w.cell? ⟨g, 0 + j * 4 + q, none⟩ = (L[j].cells)[q]? := fun q hq => by
      rw [cell_of_row w g _ cur e (0, 0) hg, ← flat_get L j q hj hq, ← ht, List.getElem?_take, if_pos (by omega)]
      simp
    exact ⟨key 0 (by omega), key 1 (by omega), key 2 (by omega), key 3 (by omega)⟩

def Gives (c : Cod) (w : World) (e : Ending) (w' : World) : Prop := ∃ v, e = .returned (codVal c v) ∧ InsSl w' v c.l ∧ Below w.heap.size w w'
def GivesOwn (T : TypeId) (c : Cod) (w : World) (e : Ending) (w' : World) : Prop := ∃ v, e = .returned (codVal c v) ∧ w'.ownsRow w.heap.size T 4 v c.l.length (flat c.l) ∧ Below w.heap.size w w'

def ToRel (L : List Ins) (nm : ByteArray) (ar sl bo : Int) (T E : TypeId) (B : Nat) (W : World) (c : Value) (wr : World) : Prop :=
  ∃ (k : Nat) (sv : Value), k ≤ L.length ∧ c = .int .i64 k ∧ wr.heap[B + 2]? = some (.cells #[.string nm, .int .i64 ar, .int .i64 sl, .int .i64 bo, sv] T (0, 0)) ∧
    wr.ownsRow (B + 3) E 4 sv k (flat (L.take k)) ∧ Below (B + 2) W wr

theorem to_start {L : List Ins} {nm : ByteArray} {ar sl bo : Int} {T E : TypeId} {B : Nat} {W : World} (h : W.heap[B + 2]? = some (.cells #[.string nm, .int .i64 ar, .int .i64 sl, .int .i64 bo, .slice none 0 0] T (0, 0))) :
    ToRel L nm ar sl bo T E B W (.int .i64 ((0 : Nat) : Int)) W :=
  ⟨0, _, Nat.zero_le _, rfl, h, by simpa [flat] using World.ownsRow_nil W (B + 3) E 4, Below.refl _ _⟩

theorem to_step {L : List Ins} {nm : ByteArray} {ar sl bo : Int} {T E : TypeId} {B k : Nat} {W wr w1 : World} {sv v' : Value} {o o' : Obj} (hk : k < L.length) (hB : B + 3 ≤ wr.heap.size)
    (hblk : wr.heap[B + 2]? = some (.cells #[.string nm, .int .i64 ar, .int .i64 sl, .int .i64 bo, sv] T (0, 0))) (hown : wr.ownsRow (B + 3) E 4 sv k (flat (L.take k))) (hbl : Below (B + 2) W wr)
    (hown' : w1.ownsRow (B + 3) E 4 v' (k + 1) (flat (L.take k) ++ L[k].cells)) (hgrow : ((wr.alloc o).alloc o').grownBy w1 sv.ownBlock) :
    ToRel L nm ar sl bo T E B W (.int .i64 ((k : Int) + 1)) (w1.setCell ⟨B + 2, 4, none⟩ v') ∧ w1.heap[B + 2]? = some (.cells #[.string nm, .int .i64 ar, .int .i64 sl, .int .i64 bo, sv] T (0, 0)) := by
  have hne : some (B + 2) ≠ sv.ownBlock := fun h => by have := (hown.lt _ h.symm).1; omega
  have h1 : w1.heap[B + 2]? = some (.cells #[.string nm, .int .i64 ar, .int .i64 sl, .int .i64 bo, sv] T (0, 0)) := by
    rw [hgrow.block (B + 2) (by simp; omega) hne, Below.heap_alloc _ _ _ (by simp; omega), Below.heap_alloc _ _ _ (by omega)]
    exact hblk
  refine ⟨⟨k + 1, v', by omega, rfl, heap_setCell_same _ _ _ _ _ _ h1, ?_, ?_⟩, h1⟩
  · rw [flat_snoc L k hk]
    exact ownsRow_setCell_below hown' (by show B + 2 < B + 3; omega) _
  · refine Below.setCell ?_ (by show B + 2 ≤ B + 2; omega) _
    exact ((hbl.alloc (by omega) _).alloc (by simp; omega) _).grown hgrow (by simp; omega) fun j hj => by have := (hown.lt j hj).1; omega

theorem owns_form {w : World} {base : Nat} {e : TypeId} {size : Nat} {v : Value} {n : Nat} {xs : List Value} (h : w.ownsRow base e size v n xs) : ∃ a cap, v = .slice a n cap := by
  rcases h.2 with ⟨rfl, rfl⟩ | ⟨g, cap, cur, rfl, _⟩
  · exact ⟨_, _, rfl⟩
  · exact ⟨_, _, rfl⟩

theorem owns_lower {w : World} {base base' : Nat} {e : TypeId} {size : Nat} {v : Value} {n : Nat} {xs : List Value} (hb : base' ≤ base) (h : w.ownsRow base e size v n xs) : w.ownsRow base' e size v n xs := by
  refine ⟨h.1, ?_⟩
  rcases h.2 with h1 | ⟨g, cap, cur, e1, e2, rest⟩
  · exact .inl h1
  · exact .inr ⟨g, cap, cur, e1, by omega, rest⟩

theorem fin5 {w wr : World} {E : TypeId} {sv : Value} {L : List Ins} (x0 x1 x2 x3 x4 : Value) (hown : wr.ownsRow (w.heap.size + 3) E 4 sv L.length (flat L)) (hbl : Below w.heap.size w wr) :
    (((((wr.setCell ⟨w.heap.size + 1, 0, none⟩ x0).setCell ⟨w.heap.size + 1, 1, none⟩ x1).setCell ⟨w.heap.size + 1, 2, none⟩ x2).setCell ⟨w.heap.size + 1, 3, none⟩ x3).setCell ⟨w.heap.size + 1, 4, none⟩ x4).ownsRow w.heap.size E 4 sv L.length (flat L) ∧
    Below w.heap.size w (((((wr.setCell ⟨w.heap.size + 1, 0, none⟩ x0).setCell ⟨w.heap.size + 1, 1, none⟩ x1).setCell ⟨w.heap.size + 1, 2, none⟩ x2).setCell ⟨w.heap.size + 1, 3, none⟩ x3).setCell ⟨w.heap.size + 1, 4, none⟩ x4) := by
  have hlt : w.heap.size + 1 < w.heap.size + 3 := by omega
  have hle : w.heap.size ≤ w.heap.size + 1 := by omega
  exact ⟨owns_lower (by omega) (ownsRow_setCell_below (ownsRow_setCell_below (ownsRow_setCell_below (ownsRow_setCell_below (ownsRow_setCell_below hown hlt _) hlt _) hlt _) hlt _) hlt _), ((((hbl.setCell hle _).setCell hle _).setCell hle _).setCell hle _).setCell hle _⟩

theorem heap5 {w : World} {g : Nat} {T : TypeId} {y0 y1 y2 y3 y4 : Value} (x0 x1 x2 x3 x4 : Value) (h : w.heap[g]? = some (.cells #[y0, y1, y2, y3, y4] T (0, 0))) :
    (((((w.setCell ⟨g, 0, none⟩ x0).setCell ⟨g, 1, none⟩ x1).setCell ⟨g, 2, none⟩ x2).setCell ⟨g, 3, none⟩ x3).setCell ⟨g, 4, none⟩ x4).heap[g]? = some (.cells #[x0, x1, x2, x3, x4] T (0, 0)) :=
  heap_setCell_same _ _ 4 #[x0, x1, x2, x3, y4] _ _ (heap_setCell_same _ _ 3 #[x0, x1, x2, y3, y4] _ _ (heap_setCell_same _ _ 2 #[x0, x1, y2, y3, y4] _ _ (heap_setCell_same _ _ 1 #[x0, y1, y2, y3, y4] _ _ (heap_setCell_same _ _ 0 #[y0, y1, y2, y3, y4] _ _ h))))

theorem three (w : World) (a b c : Obj) : (((w.alloc a).alloc b).alloc c).heap[w.heap.size]? = some a ∧ (((w.alloc a).alloc b).alloc c).heap[w.heap.size + 1]? = some b ∧ (((w.alloc a).alloc b).alloc c).heap[w.heap.size + 2]? = some c ∧
    (((w.alloc a).alloc b).alloc c).heap.size = w.heap.size + 3 ∧ Below w.heap.size w (((w.alloc a).alloc b).alloc c) := by
  refine ⟨?_, ?_, ?_, by simp, (((Below.refl _ _).alloc (Nat.le_refl _) _).alloc (by simp) _).alloc (by simp; omega) _⟩
  · rw [Below.heap_alloc _ _ _ (by simp; omega), heap_alloc2_old]
  · rw [Below.heap_alloc _ _ _ (by simp), show w.heap.size + 1 = (w.alloc a).heap.size from by simp, heap_alloc_new]
  · rw [show w.heap.size + 2 = ((w.alloc a).alloc b).heap.size from by simp, heap_alloc_new]

theorem Try.infoto : (Try.prog.info? 54).map (fun i => (i.zero, i.size, i.bytes)) = some (some (.agg #[.int .i64 0, .int .i64 0, .int .i64 0, .string ⟨#[]⟩]), 4, 40) := by kernel_rfl

set_option maxRecDepth 100000 in
set_option maxHeartbeats 800000 in
theorem to_own (c : Cod) (v : Value) (w : World) (hv : InsSl w v c.l) (hl : c.l.length ≤ 1000000) :
    Calls Try.prog 24 #[codVal c v] w (GivesOwn 54 c w) := by
  obtain ⟨aa, cap, rfl, hc⟩ := hv
  obtain ⟨nm, ar, sl, bo, L⟩ := c
  dsimp only at *
  obtain ⟨i0, hi0, hz0, hz1, hz2⟩ := info_parts Try.infoto
  obtain ⟨t0, t1, t2, tsz, tbl⟩ := three w (.cells #[.string nm, .int .i64 ar, .int .i64 sl, .int .i64 bo, .slice aa L.length cap] 41) (.cells #[.string ⟨#[]⟩, .int .i64 0, .int .i64 0, .int .i64 0, .slice none 0 0] 44) (.cells #[.string nm, .int .i64 ar, .int .i64 sl, .int .i64 bo, .slice none 0 0] 44)
  have HC := Lib.hid hc
  have T1 := Lib.hid t1
  have T2 := Lib.hid t2
  have TS := Lib.hid tsz
  have TB := Lib.hid tbl
  clear hc t0 t1 t2 tsz tbl
  go_enter Try.func24, Try.ntmps24
  go_wp2
  generalize (((w.alloc (.cells #[.string nm, .int .i64 ar, .int .i64 sl, .int .i64 bo, .slice aa L.length cap] 41)).alloc (.cells #[.string ⟨#[]⟩, .int .i64 0, .int .i64 0, .int .i64 0, .slice none 0 0] 44)).alloc (.cells #[.string nm, .int .i64 ar, .int .i64 sl, .int .i64 bo, .slice none 0 0] 44)) = W at *
  have hst : ToRel L nm ar sl bo 44 54 w.heap.size W (.int .i64 ((0 : Nat) : Int)) W := to_start T2.out
  have H := Lib.hid hst
  clear hst
  go_loopw [18] (fun c wr => ToRel L nm ar sl bo 44 54 w.heap.size W c wr) (fun c _ => L.length - (intOf c).toNat)
  case atStart => exact H.out
  case round =>
    obtain ⟨k, sv, hk, rfl, hblk, hown, hbl⟩ := hrel
    obtain ⟨sa, scap, rfl⟩ := owns_form hown
    have hbl0 : Below w.heap.size w wr := TB.out.trans (hbl.mono (by omega))
    have hsz : w.heap.size + 3 ≤ wr.heap.size := by have := hbl.size; have := TS.out; omega
    have hlt2 : w.heap.size + 1 + 1 < wr.heap.size := by omega
    have hlt1 : w.heap.size + 1 < wr.heap.size := by omega
    have f0 := cell_of_row wr (w.heap.size + 2) 0 _ _ _ hblk
    have f1 := cell_of_row wr (w.heap.size + 2) 1 _ _ _ hblk
    have f2 := cell_of_row wr (w.heap.size + 2) 2 _ _ _ hblk
    have f3 := cell_of_row wr (w.heap.size + 2) 3 _ _ _ hblk
    have f4 := cell_of_row wr (w.heap.size + 2) 4 _ _ _ hblk
    have HBK := Lib.hid hblk
    clear hblk H
    by_cases hkl : k < L.length
    · obtain ⟨b2, off, rfl, hi⟩ := HC.out k hkl
      have hi' := hi.below hbl0 hi.lt
      obtain ⟨g0, g1, g2, g3⟩ := hi'
      have hbr2 : b2 < wr.heap.size := by have := hi.lt; have := hbl0.size; omega
      have hstep := fun (w1 : World) (v' : Value) (o o' : Obj) h1 h2 => to_step (w1 := w1) (v' := v') (o := o) (o' := o') hkl hsz HBK.out hown hbl h1 h2
      have HST := Lib.hid hstep
      have hone := cells_one L[k]
      have HON := Lib.hid hone
      clear hi hstep hone
      unfold Ins.cells at HST HON
      generalize L[k] = x at *
      obtain ⟨iop, ia, in_, is⟩ := x
      dsimp only at *
      go_wp2_with (at_builtin; go_loud (refine wpList_append_own _ rfl _ _ 42 rfl (w.heap.size + 3) 54 i0 (.agg #[.int .i64 0, .int .i64 0, .int .i64 0, .string ⟨#[]⟩]) 4 40 Try.underlying42 hi0 hz0 hz1 hz2 rfl (by decide) _ _ _ rfl ((hown.alloc _).alloc _) _ 1 1 [.int .i64 iop, .int .i64 ia, .int .i64 in_, .string is] rfl rfl ?c1 ?c2 ?c3 ?c4 ?c5 ?_))
      case c1 => exact cells_at _ #[.int .i64 iop, .int .i64 ia, .int .i64 in_, .string is] _ (by simp)
      case c2 => exact HON.out
      case c3 => unfold maxLen; omega
      case c4 => omega
      case c5 => simp; omega
      intro v' w1 hown' hgrow _
      obtain ⟨sa', scap', rfl⟩ := owns_form hown'
      have hs := HST.out w1 _ _ _ hown' hgrow
      have e4 := cell_of_row w1 (w.heap.size + 2) 4 _ _ _ hs.2
      have e4' := frozen_of_row w1 (w.heap.size + 2) 4 _ _ hs.2
      have HR := Lib.hid hs.1
      clear hs hown' hgrow hown g0 g1 g2 g3 f0 f1 f2 f3 f4
      go_wp2
      go_roundw
      case rel => exact HR.out
      case measure => simp [intOf]; omega
    · obtain rfl : k = L.length := by omega
      have q0 := (hbl.block (w.heap.size + 1) (by omega)).trans T1.out
      have r0 := cell_of_row wr (w.heap.size + 1) 0 _ _ _ q0
      have r1 := cell_of_row wr (w.heap.size + 1) 1 _ _ _ q0
      have r2 := cell_of_row wr (w.heap.size + 1) 2 _ _ _ q0
      have r3 := cell_of_row wr (w.heap.size + 1) 3 _ _ _ q0
      have r4 := cell_of_row wr (w.heap.size + 1) 4 _ _ _ q0
      have s0 := frozen_of_row wr (w.heap.size + 1) 0 _ _ q0
      have s1 := frozen_of_row wr (w.heap.size + 1) 1 _ _ q0
      have s2 := frozen_of_row wr (w.heap.size + 1) 2 _ _ q0
      have s3 := frozen_of_row wr (w.heap.size + 1) 3 _ _ q0
      have s4 := frozen_of_row wr (w.heap.size + 1) 4 _ _ q0
      rw [List.take_length] at hown
      have hfin := fun x0 x1 x2 x3 x4 => fin5 x0 x1 x2 x3 x4 hown hbl0
      have HFIN := Lib.hid hfin
      have hh5 := fun x0 x1 x2 x3 x4 => heap5 x0 x1 x2 x3 x4 q0
      have HH := Lib.hid hh5
      clear q0 hown hfin hh5
      go_wp2
      exact bodyPost_ret (v := codVal ⟨nm, ar, sl, bo, L⟩ (.slice sa L.length scap)) (results_cell_row Try.results24 _ _ (w.heap.size + 1) _ #[.string nm, .int .i64 ar, .int .i64 sl, .int .i64 bo, .slice sa L.length scap] _ _ rfl (HH.out _ _ _ _ _) Try.underlying44 rfl (by kernel_rfl)) rfl ⟨_, rfl, (HFIN.out _ _ _ _ _).1, (HFIN.out _ _ _ _ _).2⟩

theorem to_any (c : Cod) (v : Value) (w : World) (hv : InsSl w v c.l) (hl : c.l.length ≤ 1000000) : Calls Try.prog 24 #[codVal c v] w (Gives c w) :=
  (to_own c v w hv hl).mono fun _ _ ⟨v', he, ho, hb⟩ => ⟨v', he, insSl_of_owns ho, hb⟩

theorem Try.infofrom : (Try.prog.info? 72).map (fun i => (i.zero, i.size, i.bytes)) = some (some (.agg #[.int .i64 0, .int .i64 0, .int .i64 0, .string ⟨#[]⟩]), 4, 40) := by kernel_rfl

set_option maxRecDepth 100000 in
set_option maxHeartbeats 800000 in
theorem from_own (c : Cod) (v : Value) (w : World) (hv : InsSl w v c.l) (hl : c.l.length ≤ 1000000) :
    Calls Try.prog 30 #[codVal c v] w (GivesOwn 72 c w) := by
  obtain ⟨aa, cap, rfl, hc⟩ := hv
  obtain ⟨nm, ar, sl, bo, L⟩ := c
  dsimp only at *
  obtain ⟨i0, hi0, hz0, hz1, hz2⟩ := info_parts Try.infofrom
  obtain ⟨t0, t1, t2, tsz, tbl⟩ := three w (.cells #[.string nm, .int .i64 ar, .int .i64 sl, .int .i64 bo, .slice aa L.length cap] 44) (.cells #[.string ⟨#[]⟩, .int .i64 0, .int .i64 0, .int .i64 0, .slice none 0 0] 41) (.cells #[.string nm, .int .i64 ar, .int .i64 sl, .int .i64 bo, .slice none 0 0] 41)
  have HC := Lib.hid hc
  have T1 := Lib.hid t1
  have T2 := Lib.hid t2
  have TS := Lib.hid tsz
  have TB := Lib.hid tbl
  clear hc t0 t1 t2 tsz tbl
  go_enter Try.func30, Try.ntmps30
  go_wp2
  generalize (((w.alloc (.cells #[.string nm, .int .i64 ar, .int .i64 sl, .int .i64 bo, .slice aa L.length cap] 44)).alloc (.cells #[.string ⟨#[]⟩, .int .i64 0, .int .i64 0, .int .i64 0, .slice none 0 0] 41)).alloc (.cells #[.string nm, .int .i64 ar, .int .i64 sl, .int .i64 bo, .slice none 0 0] 41)) = W at *
  have hst : ToRel L nm ar sl bo 41 72 w.heap.size W (.int .i64 ((0 : Nat) : Int)) W := to_start T2.out
  have H := Lib.hid hst
  clear hst
  go_loopw [18] (fun c wr => ToRel L nm ar sl bo 41 72 w.heap.size W c wr) (fun c _ => L.length - (intOf c).toNat)
  case atStart => exact H.out
  case round =>
    obtain ⟨k, sv, hk, rfl, hblk, hown, hbl⟩ := hrel
    obtain ⟨sa, scap, rfl⟩ := owns_form hown
    have hbl0 : Below w.heap.size w wr := TB.out.trans (hbl.mono (by omega))
    have hsz : w.heap.size + 3 ≤ wr.heap.size := by have := hbl.size; have := TS.out; omega
    have hlt2 : w.heap.size + 1 + 1 < wr.heap.size := by omega
    have hlt1 : w.heap.size + 1 < wr.heap.size := by omega
    have f0 := cell_of_row wr (w.heap.size + 2) 0 _ _ _ hblk
    have f1 := cell_of_row wr (w.heap.size + 2) 1 _ _ _ hblk
    have f2 := cell_of_row wr (w.heap.size + 2) 2 _ _ _ hblk
    have f3 := cell_of_row wr (w.heap.size + 2) 3 _ _ _ hblk
    have f4 := cell_of_row wr (w.heap.size + 2) 4 _ _ _ hblk
    have HBK := Lib.hid hblk
    clear hblk H
    by_cases hkl : k < L.length
    · obtain ⟨b2, off, rfl, hi⟩ := HC.out k hkl
      have hi' := hi.below hbl0 hi.lt
      obtain ⟨g0, g1, g2, g3⟩ := hi'
      have hbr2 : b2 < wr.heap.size := by have := hi.lt; have := hbl0.size; omega
      have hstep := fun (w1 : World) (v' : Value) (o o' : Obj) h1 h2 => to_step (w1 := w1) (v' := v') (o := o) (o' := o') hkl hsz HBK.out hown hbl h1 h2
      have HST := Lib.hid hstep
      have hone := cells_one L[k]
      have HON := Lib.hid hone
      clear hi hstep hone
      unfold Ins.cells at HST HON
      generalize L[k] = x at *
      obtain ⟨iop, ia, in_, is⟩ := x
      dsimp only at *
      go_wp2_with (at_builtin; go_loud (refine wpList_append_own _ rfl _ _ 39 rfl (w.heap.size + 3) 72 i0 (.agg #[.int .i64 0, .int .i64 0, .int .i64 0, .string ⟨#[]⟩]) 4 40 Try.underlying39 hi0 hz0 hz1 hz2 rfl (by decide) _ _ _ rfl ((hown.alloc _).alloc _) _ 1 1 [.int .i64 iop, .int .i64 ia, .int .i64 in_, .string is] rfl rfl ?c1 ?c2 ?c3 ?c4 ?c5 ?_))
      case c1 => exact cells_at _ #[.int .i64 iop, .int .i64 ia, .int .i64 in_, .string is] _ (by simp)
      case c2 => exact HON.out
      case c3 => unfold maxLen; omega
      case c4 => omega
      case c5 => simp; omega
      intro v' w1 hown' hgrow _
      obtain ⟨sa', scap', rfl⟩ := owns_form hown'
      have hs := HST.out w1 _ _ _ hown' hgrow
      have e4 := cell_of_row w1 (w.heap.size + 2) 4 _ _ _ hs.2
      have e4' := frozen_of_row w1 (w.heap.size + 2) 4 _ _ hs.2
      have HR := Lib.hid hs.1
      clear hs hown' hgrow hown g0 g1 g2 g3 f0 f1 f2 f3 f4
      go_wp2
      go_roundw
      case rel => exact HR.out
      case measure => simp [intOf]; omega
    · obtain rfl : k = L.length := by omega
      have q0 := (hbl.block (w.heap.size + 1) (by omega)).trans T1.out
      have r0 := cell_of_row wr (w.heap.size + 1) 0 _ _ _ q0
      have r1 := cell_of_row wr (w.heap.size + 1) 1 _ _ _ q0
      have r2 := cell_of_row wr (w.heap.size + 1) 2 _ _ _ q0
      have r3 := cell_of_row wr (w.heap.size + 1) 3 _ _ _ q0
      have r4 := cell_of_row wr (w.heap.size + 1) 4 _ _ _ q0
      have s0 := frozen_of_row wr (w.heap.size + 1) 0 _ _ q0
      have s1 := frozen_of_row wr (w.heap.size + 1) 1 _ _ q0
      have s2 := frozen_of_row wr (w.heap.size + 1) 2 _ _ q0
      have s3 := frozen_of_row wr (w.heap.size + 1) 3 _ _ q0
      have s4 := frozen_of_row wr (w.heap.size + 1) 4 _ _ q0
      rw [List.take_length] at hown
      have hfin := fun x0 x1 x2 x3 x4 => fin5 x0 x1 x2 x3 x4 hown hbl0
      have HFIN := Lib.hid hfin
      have hh5 := fun x0 x1 x2 x3 x4 => heap5 x0 x1 x2 x3 x4 q0
      have HH := Lib.hid hh5
      clear q0 hown hfin hh5
      go_wp2
      exact bodyPost_ret (v := codVal ⟨nm, ar, sl, bo, L⟩ (.slice sa L.length scap)) (results_cell_row Try.results30 _ _ (w.heap.size + 1) _ #[.string nm, .int .i64 ar, .int .i64 sl, .int .i64 bo, .slice sa L.length scap] _ _ rfl (HH.out _ _ _ _ _) Try.underlying41 rfl (by kernel_rfl)) rfl ⟨_, rfl, (HFIN.out _ _ _ _ _).1, (HFIN.out _ _ _ _ _).2⟩

theorem from_any (c : Cod) (v : Value) (w : World) (hv : InsSl w v c.l) (hl : c.l.length ≤ 1000000) : Calls Try.prog 30 #[codVal c v] w (Gives c w) :=
  (from_own c v w hv hl).mono fun _ _ ⟨v', he, ho, hb⟩ => ⟨v', he, insSl_of_owns ho, hb⟩
end Go.Proofs.Ytlndoogiflcoeaa.Cod
