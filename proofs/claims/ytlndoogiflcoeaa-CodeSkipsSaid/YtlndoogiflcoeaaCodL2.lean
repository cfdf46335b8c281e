/-
  The law CodeParts, walked over the program: whatever the code, it answers true.
-/
import Derived.Test.YtlndoogiflcoeaaCodL1
import Derived.Test.YtlndoogiflcoeaaCodQ
import Derived.Laws.Tables
namespace Go.Proofs.Ytlndoogiflcoeaa.Cod
open Go Go.RowKit Go.Proofs.Ytlndoogiflcoeaa.Reg

def aggBlk : Value → Option Nat
  | .agg cs => (cs.getD 4 undef).ownBlock
  | _ => none

theorem owns_below {B : Nat} {T : TypeId} {n size : Nat} {v : Value} {xs : List Value} {u u' : World} (h : u.ownsRow B T size v n xs) (hb : Below u.heap.size u u') : u'.ownsRow B T size v n xs := by
  refine ⟨h.1, ?_⟩
  rcases h.2 with h1 | ⟨g, cap, cur, e1, e2, e3, rest⟩
  · exact .inl h1
  · exact .inr ⟨g, cap, cur, e1, e2, (hb.block g (Array.getElem?_eq_some_iff.1 e3).1).trans e3, rest⟩
theorem owns_at {B : Nat} {T : TypeId} {n size : Nat} {v : Value} {xs : List Value} {u u' : World} (h : u.ownsRow B T size v n xs) (hb : ∀ g, v.ownBlock = some g → u'.heap[g]? = u.heap[g]?) : u'.ownsRow B T size v n xs := by
  refine ⟨h.1, ?_⟩
  rcases h.2 with h1 | ⟨g, cap, cur, rfl, e2, e3, rest⟩
  · exact .inl h1
  · exact .inr ⟨g, cap, cur, rfl, e2, (hb g rfl).trans e3, rest⟩

def OwnCod (B : Nat) (T : TypeId) (c : Cod) (v : Value) (u : World) : Prop := ∃ vs, v = codVal c vs ∧ u.ownsRow B T 4 vs c.l.length (flat c.l)
theorem OwnCod.below {B : Nat} {T : TypeId} {c : Cod} {v : Value} {u u' : World} (h : OwnCod B T c v u) (hb : Below u.heap.size u u') : OwnCod B T c v u' :=
  let ⟨vs, e, h⟩ := h; ⟨vs, e, owns_below h hb⟩

theorem InsSl.take {w : World} {a : Option Addr} {cap m : Nat} {L : List Ins} (h : InsSl w (.slice a L.length cap) L) (hm : m ≤ L.length) : InsSl w (.slice a m cap) (L.take m) := by
  obtain ⟨a', cap', e, hc⟩ := h
  obtain ⟨rfl, -, rfl⟩ := Value.slice.inj e
  refine ⟨a, cap, by rw [List.length_take, Nat.min_eq_left hm], fun j hj => ?_⟩
  rw [List.length_take, Nat.min_eq_left hm] at hj
  obtain ⟨b, off, rfl, hi⟩ := hc j (by omega)
  exact ⟨b, off, rfl, by rw [List.getElem_take]; exact hi⟩

theorem owns_ne {B : Nat} {T T' : TypeId} {n size b : Nat} {v : Value} {xs : List Value} {u : World} {cs : Array Value} (h : u.ownsRow B T size v n xs) (hb : u.heap[b]? = some (.cells cs T' (0, 0))) (hT : T ≠ T') : ∀ g, v.ownBlock = some g → g ≠ b := by
  intro g hg e
  subst e
  rcases h.2 with ⟨rfl, _⟩ | ⟨g', cap, cur, rfl, _, e3, _⟩
  · simp [Value.ownBlock] at hg
  · simp [Value.ownBlock] at hg
    subst hg
    rw [e3] at hb
    simp at hb
    exact hT hb.2

theorem trio {u : World} {B b8 b9 b10 n : Nat} {z8 z9 z10 : Array Value} {T E : TypeId} {l1 l2 l3 : Value} {xs : List Value} (h8 : u.heap[b8]? = some (.cells z8 T (0, 0))) (h9 : u.heap[b9]? = some (.cells z9 T (0, 0))) (h10 : u.heap[b10]? = some (.cells z10 T (0, 0)))
    (n89 : b8 ≠ b9) (n810 : b8 ≠ b10) (n910 : b9 ≠ b10) (hB8 : B ≤ b8) (hB9 : B ≤ b9) (hB10 : B ≤ b10) (hTE : E ≠ T) (o1 : u.ownsRow B E 4 l1 n xs) (o2 : u.ownsRow B E 4 l2 n xs) (o3 : u.ownsRow B E 4 l3 n xs) (c8 c9 c10 : Array Value) :
    (((u.setRow b8 c8).setRow b9 c9).setRow b10 c10).heap[b8]? = some (.cells c8 T (0, 0)) ∧ (((u.setRow b8 c8).setRow b9 c9).setRow b10 c10).heap[b9]? = some (.cells c9 T (0, 0)) ∧ (((u.setRow b8 c8).setRow b9 c9).setRow b10 c10).heap[b10]? = some (.cells c10 T (0, 0)) ∧
    (((u.setRow b8 c8).setRow b9 c9).setRow b10 c10).ownsRow B E 4 l1 n xs ∧ (((u.setRow b8 c8).setRow b9 c9).setRow b10 c10).ownsRow B E 4 l2 n xs ∧ (((u.setRow b8 c8).setRow b9 c9).setRow b10 c10).ownsRow B E 4 l3 n xs ∧
    Below B u (((u.setRow b8 c8).setRow b9 c9).setRow b10 c10) ∧ (((u.setRow b8 c8).setRow b9 c9).setRow b10 c10).heap.size = u.heap.size := by
  have key : ∀ k, k ≠ b8 → k ≠ b9 → k ≠ b10 → (((u.setRow b8 c8).setRow b9 c9).setRow b10 c10).heap[k]? = u.heap[k]? := fun k h1 h2 h3 => by
    rw [setRow_other _ _ _ _ h3, setRow_other _ _ _ _ h2, setRow_other _ _ _ _ h1]
  have hsz : (((u.setRow b8 c8).setRow b9 c9).setRow b10 c10).heap.size = u.heap.size := by simp
  refine ⟨?_, ?_, ?_, ?_, ?_, ?_, ⟨rfl, rfl, rfl, by rw [hsz]; exact Nat.le_refl _, fun k hk => key k (by omega) (by omega) (by omega)⟩, hsz⟩
  · rw [setRow_other _ _ _ _ n810, setRow_other _ _ _ _ n89]; exact setRow_heap _ _ _ _ _ _ h8
  · rw [setRow_other _ _ _ _ n910]; exact setRow_heap _ _ _ _ _ _ (by rw [setRow_other _ _ _ _ (Ne.symm n89)]; exact h9)
  · exact setRow_heap _ _ _ _ _ _ (by rw [setRow_other _ _ _ _ (Ne.symm n910), setRow_other _ _ _ _ (Ne.symm n810)]; exact h10)
  · exact owns_at o1 fun g hg => key g (owns_ne o1 h8 hTE g hg) (owns_ne o1 h9 hTE g hg) (owns_ne o1 h10 hTE g hg)
  · exact owns_at o2 fun g hg => key g (owns_ne o2 h8 hTE g hg) (owns_ne o2 h9 hTE g hg) (owns_ne o2 h10 hTE g hg)
  · exact owns_at o3 fun g hg => key g (owns_ne o3 h8 hTE g hg) (owns_ne o3 h9 hTE g hg) (owns_ne o3 h10 hTE g hg)

/-- the world behind the three changes -/
theorem parts_end {U w5 : World} {B b8 b9 b10 g1 cap1 m : Nat} {T E E' : TypeId} {y0 y1 y2 y3 l2 l3 v' x less : Value} {L : List Ins} {q : Ins} {ns : Array Value}
    (h8 : U.heap[b8]? = some (.cells #[y0, y1, y2, y3, .slice (some ⟨g1, 0, none⟩) L.length cap1] T (0, 0))) (h9 : U.heap[b9]? = some (.cells #[y0, y1, y2, y3, l2] T (0, 0))) (h10 : U.heap[b10]? = some (.cells #[y0, y1, y2, y3, l3] T (0, 0)))
    (n89 : b8 ≠ b9) (n810 : b8 ≠ b10) (n910 : b9 ≠ b10) (hB8 : B ≤ b8) (hB9 : B ≤ b9) (hB10 : B ≤ b10) (hTE : E ≠ T)
    (o1 : U.ownsRow B E 4 (.slice (some ⟨g1, 0, none⟩) L.length cap1) L.length (flat L)) (o2 : U.ownsRow B E 4 l2 L.length (flat L)) (o3 : U.ownsRow B E 4 l3 L.length (flat L)) (d12 : ∀ g, l2.ownBlock = some g → g ≠ g1) (d32 : ∀ g, l2.ownBlock = some g → l3.ownBlock ≠ some g)
    (hless : less = .slice (some ⟨g1, 0, none⟩) m cap1) (hm : m ≤ L.length) (hsB : B ≤ U.heap.size)
    (ho' : w5.ownsRow B E 4 v' (L.length + 1) (flat L ++ q.cells)) (hg : ((U.setCell ⟨b8, 4, none⟩ less).alloc (.cells ns E')).grownBy w5 l2.ownBlock) :
    (w5.heap[b9]? = some (.cells #[y0, y1, y2, y3, l2] T (0, 0)) ∧ (w5.setCell ⟨b9, 4, none⟩ v').heap[b10]? = some (.cells #[y0, y1, y2, y3, l3] T (0, 0))) ∧
    ((w5.setCell ⟨b9, 4, none⟩ v').setCell ⟨b10, 2, none⟩ x).heap[b8]? = some (.cells #[y0, y1, y2, y3, less] T (0, 0)) ∧ ((w5.setCell ⟨b9, 4, none⟩ v').setCell ⟨b10, 2, none⟩ x).heap[b9]? = some (.cells #[y0, y1, y2, y3, v'] T (0, 0)) ∧
    ((w5.setCell ⟨b9, 4, none⟩ v').setCell ⟨b10, 2, none⟩ x).heap[b10]? = some (.cells #[y0, y1, x, y3, l3] T (0, 0)) ∧
    InsSl ((w5.setCell ⟨b9, 4, none⟩ v').setCell ⟨b10, 2, none⟩ x) less (L.take m) ∧ InsSl ((w5.setCell ⟨b9, 4, none⟩ v').setCell ⟨b10, 2, none⟩ x) v' (L ++ [q]) ∧ InsSl ((w5.setCell ⟨b9, 4, none⟩ v').setCell ⟨b10, 2, none⟩ x) l3 L ∧
    Below B U ((w5.setCell ⟨b9, 4, none⟩ v').setCell ⟨b10, 2, none⟩ x) := by
  have lt : ∀ {b cs}, U.heap[b]? = some (.cells cs T (0, 0)) → b < U.heap.size := fun h => (Array.getElem?_eq_some_iff.1 h).1
  have at5 : ∀ k, k < U.heap.size → k ≠ b8 → some k ≠ l2.ownBlock → w5.heap[k]? = U.heap[k]? := fun k hk h1 h2 => by
    rw [hg.block k (by simp; omega) h2, Below.heap_alloc _ _ _ (by simpa using hk), Below.heap_setCell _ _ _ _ h1]
  have atF : ∀ k, k ≠ b9 → k ≠ b10 → ((w5.setCell ⟨b9, 4, none⟩ v').setCell ⟨b10, 2, none⟩ x).heap[k]? = w5.heap[k]? := fun k h1 h2 => by
    rw [Below.heap_setCell _ _ _ _ h2, Below.heap_setCell _ _ _ _ h1]
  have ne2 : ∀ {b cs}, U.heap[b]? = some (.cells cs T (0, 0)) → some b ≠ l2.ownBlock := fun h e => owns_ne o2 h hTE _ e.symm rfl
  have w58 : w5.heap[b8]? = some (.cells #[y0, y1, y2, y3, less] T (0, 0)) := by
    rw [hg.block b8 (by have := lt h8; simp; omega) (ne2 h8), Below.heap_alloc _ _ _ (by simpa using lt h8)]
    exact heap_setCell_same _ _ 4 _ _ _ h8
  have w59 := (at5 b9 (lt h9) (Ne.symm n89) (ne2 h9)).trans h9
  have w510 := (at5 b10 (lt h10) (Ne.symm n810) (ne2 h10)).trans h10
  have s10 : (w5.setCell ⟨b9, 4, none⟩ v').heap[b10]? = some (.cells #[y0, y1, y2, y3, l3] T (0, 0)) := by rw [Below.heap_setCell _ _ _ _ (Ne.symm n910)]; exact w510
  have blk : ∀ (v : Value) g, U.ownsRow B E 4 v L.length (flat L) → v.ownBlock = some g → l2.ownBlock ≠ some g → ((w5.setCell ⟨b9, 4, none⟩ v').setCell ⟨b10, 2, none⟩ x).heap[g]? = U.heap[g]? := fun v g o e d => by
    rw [atF g (owns_ne o h9 hTE g e) (owns_ne o h10 hTE g e), at5 g (o.lt g e).2 (owns_ne o h8 hTE g e) (Ne.symm d)]
  refine ⟨⟨w59, s10⟩, (atF b8 n89 n810).trans w58, ?_, heap_setCell_same _ _ 2 _ _ _ s10, ?_, ?_, ?_, ?_⟩
  · rw [Below.heap_setCell _ _ _ _ n910]; exact heap_setCell_same _ _ 4 _ _ _ w59
  · subst hless
    refine (insSl_of_owns (owns_at o1 fun g e => blk _ g o1 e fun e' => ?_)).take hm
    have : g1 = g := by simpa [Value.ownBlock] using e
    exact d12 g e' this.symm
  · refine insSl_of_owns (base := B) (e := E) ?_
    have hl : flat (L ++ [q]) = flat L ++ q.cells := by simp [flat]
    rw [hl, List.length_append]
    refine owns_at ho' fun g e => atF g ?_ ?_
    · exact owns_ne ho' w59 hTE g e
    · exact owns_ne ho' w510 hTE g e
  · exact insSl_of_owns (owns_at o3 fun g e => blk _ g o3 e fun e' => d32 g e' e)
  · refine ((Below.grown (((Below.refl B U).setCell hB8 less).alloc (by simpa using hsB) (.cells ns E')) hg (by simp; omega) fun k hk => (o2.lt k hk).1).setCell hB9 v').setCell hB10 x

/-- the loop of the law: so many patterns are behind -/
def PaRel (L : List Ins) (N : Nat) (W : World) (p n : Value) (wr : World) : Prop :=
  ∃ k q : Nat, k ≤ N + 1 ∧ p = .int .i64 q ∧ n = .int .i64 k ∧ pfw L k = some q ∧ Below W.heap.size W wr

theorem one5 (nm : ByteArray) (x y z : Int) (a : Option Addr) (n c : Nat) : (#[Value.string nm, .int .i64 x, .int .i64 y, .int .i64 z, .slice a n c].all fun v => v.oneCell') = true := by simp [Value.oneCell']
theorem size_code : (Try.prog.info? 44).map (·.size) = some 5 := by kernel_rfl
theorem Try.infoParts : (Try.prog.info? 54).map (fun i => (i.zero, i.size, i.bytes)) = some (some (.agg #[.int .i64 0, .int .i64 0, .int .i64 0, .string ⟨#[]⟩]), 4, 40) := by kernel_rfl

set_option maxRecDepth 100000 in
set_option maxHeartbeats 3200000 in
theorem law_parts (c : Cod) (v : Value) (z : Int) (w : World) (hv : InsSl w v c.l) :
    Calls Try.prog 6 #[codVal c v, .int .u8 z] w (Says true w) := by
  obtain ⟨aa, cap, rfl⟩ := hv.form
  obtain ⟨nm, ar, sl, bo, L⟩ := c
  dsimp only at *
  have hW0 : Below w.heap.size w (w.alloc (.cells #[.string nm, .int .i64 ar, .int .i64 sl, .int .i64 bo, .slice aa L.length cap] 41)) := (Below.refl _ _).alloc (Nat.le_refl _) _
  have hB0 : (w.alloc (.cells #[.string nm, .int .i64 ar, .int .i64 sl, .int .i64 bo, .slice aa L.length cap] 41)).heap[w.heap.size]? = some (.cells #[.string nm, .int .i64 ar, .int .i64 sl, .int .i64 bo, .slice aa L.length cap] 41 (0, 0)) := heap_alloc_new w _
  have hlt0 : w.heap.size < (w.alloc (.cells #[.string nm, .int .i64 ar, .int .i64 sl, .int .i64 bo, .slice aa L.length cap] 41)).heap.size := by simp
  have HV := Lib.hid hv
  have HW0 := Lib.hid hW0
  have HB0 := Lib.hid hB0
  clear hv hW0 hB0
  go_enter Try.func6, Try.ntmps6
  go_wp2_with fail
  generalize (w.alloc (.cells #[.string nm, .int .i64 ar, .int .i64 sl, .int .i64 bo, .slice aa L.length cap] 41)) = W at *
  refine (alive_any _).mono ?_
  rintro e w1 ⟨rfl, hb1⟩
  have hblk1 := (hb1.block _ hlt0).trans HB0.out
  have HB1 := Lib.hid hblk1
  have hc := row5 hblk1
  have c0 := hc.1
  have c1 := hc.2.1
  have c2 := hc.2.2.1
  have c3 := hc.2.2.2.1
  have c4 := hc.2.2.2.2
  have HW1 := Lib.hid (HW0.out.trans (hb1.mono HW0.out.size))
  have hlt1 : w.heap.size < w1.heap.size := by have := hb1.size; omega
  clear hc hblk1 hb1
  by_cases hlen : 2000 < L.length
  · go_wp2
    go_ret
    exact says rfl HW1.out
  · go_wp2_with fail
    refine (to_any ⟨nm, ar, sl, bo, L⟩ _ _ (HV.out.below HW1.out) (by dsimp only; omega)).mono ?_
    rintro e w2 ⟨vs, rfl, hvs, hb2⟩
    obtain ⟨xa, xcap, rfl⟩ := hvs.form
    have hblk2 := (hb2.block _ hlt1).trans HB1.out
    have hX : ∀ o, Below w.heap.size w (w2.alloc o) ∧ (w2.alloc o).heap[w.heap.size]? = some (.cells #[.string nm, .int .i64 ar, .int .i64 sl, .int .i64 bo, .slice aa L.length cap] 41 (0, 0)) ∧ (w2.alloc o).heap[w2.heap.size]? = some o ∧
        InsSl (w2.alloc o) (.slice xa L.length xcap) L ∧ w.heap.size < w2.heap.size ∧ w2.heap.size < (w2.alloc o).heap.size := fun o =>
      ⟨(HW1.out.trans (hb2.mono HW1.out.size)).alloc (by have := hb2.size; omega) o, (Below.heap_alloc _ _ _ (by have := hb2.size; omega)).trans hblk2, heap_alloc_new w2 o, hvs.below ((Below.refl _ _).alloc (Nat.le_refl _) _), by have := hb2.size; omega, by simp⟩
    have HX := Lib.hid (hX (.cells #[.string nm, .int .i64 ar, .int .i64 sl, .int .i64 bo, .slice xa L.length xcap] 44))
    clear hX hblk2 hb2 hvs c0 c1 c2 c3 c4
    go_wp2_with fail
    generalize (w2.alloc (.cells #[.string nm, .int .i64 ar, .int .i64 sl, .int .i64 bo, .slice xa L.length xcap] 44)) = V at *
    have hz0 : w.heap.size < w2.heap.size := HX.out.2.2.2.2.1
    have hz1 : w2.heap.size < V.heap.size := HX.out.2.2.2.2.2
    have HVw : Hid (∀ u, Below V.heap.size V u → Below w.heap.size w u) := Lib.hid fun u hu => HX.out.1.trans (hu.mono (by omega))
    have HVx : Hid (∀ u, Below V.heap.size V u → u.heap[w2.heap.size]? = some (.cells #[.string nm, .int .i64 ar, .int .i64 sl, .int .i64 bo, .slice xa L.length xcap] 44 (0, 0))) := Lib.hid fun u hu => (hu.block _ hz1).trans HX.out.2.2.1
    have HVc : Hid (∀ u, Below V.heap.size V u → u.heap[w.heap.size]? = some (.cells #[.string nm, .int .i64 ar, .int .i64 sl, .int .i64 bo, .slice aa L.length cap] 41 (0, 0))) := Lib.hid fun u hu => (hu.block _ (by omega)).trans HX.out.2.1
    have HVs : Hid (∀ u, Below V.heap.size V u → InsSl u (.slice xa L.length xcap) L) := Lib.hid fun u hu => HX.out.2.2.2.1.below hu
    have HVa : Hid (∀ u, Below V.heap.size V u → InsSl u (.slice aa L.length cap) L) := Lib.hid fun u hu => HV.out.below (HVw.out u hu)
    refine (go_check ⟨nm, ar, sl, bo, L⟩ _ _ (HVs.out _ (Below.refl _ _))).mono ?_
    rintro e w3 ⟨rfl, hb3⟩
    by_cases hck : check ⟨nm, ar, sl, bo, L⟩ = 0
    · obtain ⟨a0, hfine⟩ := fine_of hck
      rw [hck]
      have HFI := Lib.hid hfine
      have x := row5 (HVx.out _ hb3)
      have x1 := x.2.1
      have x3 := x.2.2.2.1
      have x4 := x.2.2.2.2
      have HK3 := Lib.hid hb3
      have har := hfine.args
      dsimp only at har
      obtain ⟨N, rfl⟩ : ∃ N : Nat, ar = N := ⟨ar.toNat, by omega⟩
      have har2 : N ≤ 255 := by omega
      clear x hfine hb3 hck har
      go_wp2_with fail
      have hst : PaRel L N w3 (.int .i64 ((0 : Nat) : Int)) (.int .i64 ((0 : Nat) : Int)) w3 := ⟨0, 0, by omega, rfl, rfl, rfl, Below.refl _ _⟩
      have H := Lib.hid hst
      clear hst x1 x3 x4
      go_loopw [6, 7] (fun p n wr => PaRel L N w3 p n wr) (fun _ n _ => N + 1 - (intOf n).toNat)
      case atStart => exact H.out
      case round =>
        obtain ⟨k, q, hk, rfl, rfl, hp, hbl⟩ := hrel
        have HP := Lib.hid hp
        have HKr : Hid (Below V.heap.size V wr) := Lib.hid (HK3.out.trans (hbl.mono HK3.out.size))
        have x := row5 (HVx.out _ HKr.out)
        have x1 := x.2.1
        have x3 := x.2.2.2.1
        have x4 := x.2.2.2.2
        clear x hp H
        by_cases hkn : k ≤ N
        · have hs := HFI.out.step (k := k) (q := q) (by simpa using hkn) HP.out
          dsimp only at hs
          have hq1 : q < L.length := hs.1
          have hs0 : 0 ≤ skip L q := hs.2.1
          have HS := Lib.hid hs.2.2
          have hhi : skip L q ≤ L.length := skip_hi L q
          clear hs
          by_cases hkN : k + 1 = N
          · have hbody : (((k : Int) + 1) == (N : Int)) = true := by simp; omega
            have hbo : (skip L q != bo) = false := by
              have h1 := HFI.out.pats
              have h2 := HFI.out.body
              have h3 := HS.out
              dsimp only at h1 h2
              rw [Int.toNat_natCast, ← hkN, h3] at h1
              simp at h1
              simp; omega
            have HKN := Lib.hid hkN
            clear hkN
            go_wp2_with (go_at_call 27; refine (go_skip L _ _ _ (HVs.out _ HKr.out) (by omega)).mono ?_; rintro e w4 ⟨rfl, hb4⟩; have y := row5 (HVx.out _ (HKr.out.trans (hb4.mono HKr.out.size))); have y1 := y.2.1; have y3 := y.2.2.2.1; clear y)
            go_roundw
            case rel => exact ⟨k + 1, (skip L q).toNat, by omega, by congr 1; omega, by go_num, HS.out, hbl.trans (hb4.mono hbl.size)⟩
            case measure => simp [intOf]; omega
          · have hbody : (((k : Int) + 1) == (N : Int)) = false := by simp; omega
            go_wp2_with (go_at_call 27; refine (go_skip L _ _ _ (HVs.out _ HKr.out) (by omega)).mono ?_; rintro e w4 ⟨rfl, hb4⟩; have y := row5 (HVx.out _ (HKr.out.trans (hb4.mono HKr.out.size))); have y1 := y.2.1; have y3 := y.2.2.2.1; clear y)
            go_roundw
            case rel => exact ⟨k + 1, (skip L q).toNat, by omega, by congr 1; omega, by go_num, HS.out, hbl.trans (hb4.mono hbl.size)⟩
            case measure => simp [intOf]; omega
        · obtain rfl : k = N + 1 := by omega
          have hq : q = L.length := by
            have h1 := HFI.out.last
            dsimp only at h1
            rw [Int.toNat_natCast, HP.out] at h1
            simpa using h1
          subst hq
          have hne : (((N : Int) + 1) != ((N : Int) + 1)) = false := by simp
          go_wp2
          refine wp_region_rest (by kernel_rfl) ?_
          have HKd : Hid (Below V.heap.size V wr.drew) := Lib.hid HKr.out.drew
          clear x1 x3 x4 HKr
          generalize wr.drew = W0 at *
          refine rest_ops 0 9 96 (fun j v u => match j with | 0 => v = codVal ⟨nm, N, sl, bo, L⟩ (.slice aa L.length cap) | 1 => OwnCod W0.heap.size 54 ⟨nm, N, sl, bo, L⟩ v u | 2 => v = codVal ⟨nm, N, sl, bo, L⟩ (.slice aa L.length cap) | 3 => OwnCod W0.heap.size 54 ⟨nm, N, sl, bo, L⟩ v u | 4 => v = codVal ⟨nm, N, sl, bo, L⟩ (.slice aa L.length cap) | 5 => OwnCod W0.heap.size 54 ⟨nm, N, sl, bo, L⟩ v u | 6 => NewVar W0.heap.size #[.string ⟨#[]⟩, .int .i64 0, .int .i64 0, .int .i64 0, .slice none 0 0] 44 v u | 7 => NewVar W0.heap.size #[.string ⟨#[]⟩, .int .i64 0, .int .i64 0, .int .i64 0, .slice none 0 0] 44 v u | 8 => NewVar W0.heap.size #[.string ⟨#[]⟩, .int .i64 0, .int .i64 0, .int .i64 0, .slice none 0 0] 44 v u | _ => True) (fun j => match j with | 1 => aggBlk | 3 => aggBlk | 5 => aggBlk | 6 => ptrBlk | 7 => ptrBlk | 8 => ptrBlk | _ => fun _ => none) (by kernel_rfl) (by kernel_rfl) rfl (.inr (by kernel_rfl)) ?hS ?hop ?_
          case hS =>
            intro j v u u' hkj hjn h hb
            match j, hkj, hjn, h with
            | 0, _, _, h => exact h
            | 1, _, _, h => exact h.below hb
            | 2, _, _, h => exact h
            | 3, _, _, h => exact h.below hb
            | 4, _, _, h => exact h
            | 5, _, _, h => exact h.below hb
            | 6, _, _, h => exact h.below hb
            | 7, _, _, h => exact h.below hb
            | 8, _, _, h => exact h.below hb
            | q + 9, _, hq, _ => exact absurd hq (by omega)
          case hop =>
            refine ⟨fun v u hu hs Q' hQ => ?_, fun v u hu hs Q' hQ => ?_, fun v u hu hs Q' hQ => ?_, fun v u hu hs Q' hQ => ?_, fun v u hu hs Q' hQ => ?_, fun v u hu hs Q' hQ => ?_, fun v u hu hs Q' hQ => ?_, fun v u hu hs Q' hQ => ?_, fun v u hu hs Q' hQ => ?_, trivial⟩
            · simp only [putAll, dstOf]
              have hK := HKd.out.trans (hu.mono HKd.out.size)
              have y := row5 (HVc.out u hK)
              have y0 := y.1
              have y1 := y.2.1
              have y2 := y.2.2.1
              have y3 := y.2.2.2.1
              have y4 := y.2.2.2.2
              clear y
              go_wp2
              exact ⟨rfl, Below.refl _ _, rfl, fun _ h => nomatch h⟩
            · simp only [putAll, dstOf]
              have s_0 : v 0 = codVal ⟨nm, N, sl, bo, L⟩ (.slice aa L.length cap) := hs 0 (by kernel_rfl) (by decide) (by decide)
              have hK := HKd.out.trans (hu.mono HKd.out.size)
              have y := row5 (HVc.out u hK)
              have y0 := y.1
              have y1 := y.2.1
              have y2 := y.2.2.1
              have y3 := y.2.2.2.1
              have y4 := y.2.2.2.2
              clear y
              go_wp2_with (go_at_call 24; refine (to_own ⟨nm, N, sl, bo, L⟩ _ _ (HVa.out u hK) (by dsimp only; omega)).mono ?_; rintro e w6 ⟨vf, rfl, ho, hb6⟩)
              exact ⟨rfl, hb6, ⟨vf, rfl, owns_lower hu.size ho⟩, fun b hb => ho.lt b hb⟩
            · simp only [putAll, dstOf]
              have hK := HKd.out.trans (hu.mono HKd.out.size)
              have y := row5 (HVc.out u hK)
              have y0 := y.1
              have y1 := y.2.1
              have y2 := y.2.2.1
              have y3 := y.2.2.2.1
              have y4 := y.2.2.2.2
              clear y
              go_wp2
              exact ⟨rfl, Below.refl _ _, rfl, fun _ h => nomatch h⟩
            · simp only [putAll, dstOf]
              have s_1 : OwnCod W0.heap.size 54 ⟨nm, N, sl, bo, L⟩ (v 1) u := hs 1 (by kernel_rfl) (by decide) (by decide)
              have s_2 : v 2 = codVal ⟨nm, N, sl, bo, L⟩ (.slice aa L.length cap) := hs 2 (by kernel_rfl) (by decide) (by decide)
              have hK := HKd.out.trans (hu.mono HKd.out.size)
              have y := row5 (HVc.out u hK)
              have y0 := y.1
              have y1 := y.2.1
              have y2 := y.2.2.1
              have y3 := y.2.2.2.1
              have y4 := y.2.2.2.2
              clear y
              go_wp2_with (go_at_call 24; refine (to_own ⟨nm, N, sl, bo, L⟩ _ _ (HVa.out u hK) (by dsimp only; omega)).mono ?_; rintro e w6 ⟨vf, rfl, ho, hb6⟩)
              exact ⟨rfl, hb6, ⟨vf, rfl, owns_lower hu.size ho⟩, fun b hb => ho.lt b hb⟩
            · simp only [putAll, dstOf]
              have hK := HKd.out.trans (hu.mono HKd.out.size)
              have y := row5 (HVc.out u hK)
              have y0 := y.1
              have y1 := y.2.1
              have y2 := y.2.2.1
              have y3 := y.2.2.2.1
              have y4 := y.2.2.2.2
              clear y
              go_wp2
              exact ⟨rfl, Below.refl _ _, rfl, fun _ h => nomatch h⟩
            · simp only [putAll, dstOf]
              have s_3 : OwnCod W0.heap.size 54 ⟨nm, N, sl, bo, L⟩ (v 3) u := hs 3 (by kernel_rfl) (by decide) (by decide)
              have s_4 : v 4 = codVal ⟨nm, N, sl, bo, L⟩ (.slice aa L.length cap) := hs 4 (by kernel_rfl) (by decide) (by decide)
              have hK := HKd.out.trans (hu.mono HKd.out.size)
              have y := row5 (HVc.out u hK)
              have y0 := y.1
              have y1 := y.2.1
              have y2 := y.2.2.1
              have y3 := y.2.2.2.1
              have y4 := y.2.2.2.2
              clear y
              go_wp2_with (go_at_call 24; refine (to_own ⟨nm, N, sl, bo, L⟩ _ _ (HVa.out u hK) (by dsimp only; omega)).mono ?_; rintro e w6 ⟨vf, rfl, ho, hb6⟩)
              exact ⟨rfl, hb6, ⟨vf, rfl, owns_lower hu.size ho⟩, fun b hb => ho.lt b hb⟩
            · simp only [putAll, dstOf]
              have hK := HKd.out.trans (hu.mono HKd.out.size)
              have y := row5 (HVc.out u hK)
              have y0 := y.1
              have y1 := y.2.1
              have y2 := y.2.2.1
              have y3 := y.2.2.2.1
              have y4 := y.2.2.2.2
              clear y
              go_wp2
              exact NewVar.made hu rfl rfl
            · simp only [putAll, dstOf]
              have hK := HKd.out.trans (hu.mono HKd.out.size)
              have y := row5 (HVc.out u hK)
              have y0 := y.1
              have y1 := y.2.1
              have y2 := y.2.2.1
              have y3 := y.2.2.2.1
              have y4 := y.2.2.2.2
              clear y
              go_wp2
              exact NewVar.made hu rfl rfl
            · simp only [putAll, dstOf]
              have hK := HKd.out.trans (hu.mono HKd.out.size)
              have y := row5 (HVc.out u hK)
              have y0 := y.1
              have y1 := y.2.1
              have y2 := y.2.2.1
              have y3 := y.2.2.2.1
              have y4 := y.2.2.2.2
              clear y
              go_wp2
              exact NewVar.made hu rfl rfl
          intro v u hu hs hap
          have s_0 : v 0 = codVal ⟨nm, N, sl, bo, L⟩ (.slice aa L.length cap) := hs 0 (by decide) (by decide)
          have s_1 : OwnCod W0.heap.size 54 ⟨nm, N, sl, bo, L⟩ (v 1) u := hs 1 (by decide) (by decide)
          have s_2 : v 2 = codVal ⟨nm, N, sl, bo, L⟩ (.slice aa L.length cap) := hs 2 (by decide) (by decide)
          have s_3 : OwnCod W0.heap.size 54 ⟨nm, N, sl, bo, L⟩ (v 3) u := hs 3 (by decide) (by decide)
          have s_4 : v 4 = codVal ⟨nm, N, sl, bo, L⟩ (.slice aa L.length cap) := hs 4 (by decide) (by decide)
          have s_5 : OwnCod W0.heap.size 54 ⟨nm, N, sl, bo, L⟩ (v 5) u := hs 5 (by decide) (by decide)
          obtain ⟨b_6, s_6, nb_6, nh_6⟩ : NewVar W0.heap.size #[.string ⟨#[]⟩, .int .i64 0, .int .i64 0, .int .i64 0, .slice none 0 0] 44 (v 6) u := hs 6 (by decide) (by decide)
          obtain ⟨b_7, s_7, nb_7, nh_7⟩ : NewVar W0.heap.size #[.string ⟨#[]⟩, .int .i64 0, .int .i64 0, .int .i64 0, .slice none 0 0] 44 (v 7) u := hs 7 (by decide) (by decide)
          obtain ⟨b_8, s_8, nb_8, nh_8⟩ : NewVar W0.heap.size #[.string ⟨#[]⟩, .int .i64 0, .int .i64 0, .int .i64 0, .slice none 0 0] 44 (v 8) u := hs 8 (by decide) (by decide)
          simp only [putAll, dstOf]
          obtain ⟨l1, e1, o1⟩ := s_1
          obtain ⟨l2, e2, o2⟩ := s_3
          obtain ⟨l3, e3, o3⟩ := s_5
          have n67 : b_6 ≠ b_7 := fun e => hap 6 7 (by decide) (by decide) (by decide) (by decide) (by decide) b_6 (by rw [s_6]; rfl) (by rw [s_7, e]; rfl)
          have n68 : b_6 ≠ b_8 := fun e => hap 6 8 (by decide) (by decide) (by decide) (by decide) (by decide) b_6 (by rw [s_6]; rfl) (by rw [s_8, e]; rfl)
          have n78 : b_7 ≠ b_8 := fun e => hap 7 8 (by decide) (by decide) (by decide) (by decide) (by decide) b_7 (by rw [s_7]; rfl) (by rw [s_8, e]; rfl)
          have d21 : ∀ g, l2.ownBlock = some g → l1.ownBlock ≠ some g := fun g hg hg' => hap 3 1 (by decide) (by decide) (by decide) (by decide) (by decide) g (by rw [e2]; exact hg) (by rw [e1]; exact hg')
          have d23 : ∀ g, l2.ownBlock = some g → l3.ownBlock ≠ some g := fun g hg hg' => hap 3 5 (by decide) (by decide) (by decide) (by decide) (by decide) g (by rw [e2]; exact hg) (by rw [e3]; exact hg')
          clear hap hs
          have hpos : 0 < L.length := HFI.out.ne
          obtain ⟨g1, cap1, rfl, hcap1⟩ : ∃ g1 cap1, l1 = .slice (some ⟨g1, 0, none⟩) L.length cap1 ∧ L.length ≤ cap1 := by
            rcases o1.2 with ⟨_, h0⟩ | ⟨g, cp, cur, h0, _, _, h1, _⟩
            · dsimp only at h0; omega
            · exact ⟨g, cp, h0, h1⟩
          obtain ⟨a2, cap2, rfl⟩ := owns_form o2
          obtain ⟨a3, cap3, rfl⟩ := owns_form o3
          have hl1 : ∀ g, (Value.slice a2 L.length cap2).ownBlock = some g → g ≠ g1 := fun g hg e => d21 g hg (by rw [e]; rfl)
          dsimp only at o1 o2 o3
          have hT := trio nh_6 nh_7 nh_8 n67 n68 n78 nb_6 nb_7 nb_8 (by decide) o1 o2 o3 #[.string nm, .int .i64 N, .int .i64 sl, .int .i64 bo, .slice (some ⟨g1, 0, none⟩) L.length cap1] #[.string nm, .int .i64 N, .int .i64 sl, .int .i64 bo, .slice a2 L.length cap2] #[.string nm, .int .i64 N, .int .i64 sl, .int .i64 bo, .slice a3 L.length cap3]
          refine rest_line' 9 12 (by kernel_rfl) (by decide) (by decide) (by kernel_rfl) ?_
          simp only [List.drop_succ_cons, List.drop_zero, Nat.reduceSub, List.take_succ_cons, List.take_zero]
          simp only [Act.put, List.getElem?_toArray, List.getElem?_cons_succ, List.getElem?_cons_zero, Option.bind_some, List.setIfInBounds_toArray, List.set_cons_succ, List.set_cons_zero, Nat.reduceAdd]
          refine wpList_store_row rfl 44 (.tmp 8) (.tmp 60) rfl b_6 #[.string nm, .int .i64 N, .int .i64 sl, .int .i64 bo, .slice (some ⟨g1, 0, none⟩) L.length cap1] s_6 e1 _ _ nh_6 size_code rfl (one5 _ _ _ _ _ _ _) ?_
          refine wpList_store_row rfl 44 (.tmp 9) (.tmp 62) rfl b_7 #[.string nm, .int .i64 N, .int .i64 sl, .int .i64 bo, .slice a2 L.length cap2] s_7 e2 _ _ ((setRow_other _ _ _ _ (Ne.symm n67)).trans nh_7) size_code rfl (one5 _ _ _ _ _ _ _) ?_
          refine wpList_store_row rfl 44 (.tmp 10) (.tmp 64) rfl b_8 #[.string nm, .int .i64 N, .int .i64 sl, .int .i64 bo, .slice a3 L.length cap3] s_8 e3 _ _ (((setRow_other _ _ _ _ (Ne.symm n78)).trans (setRow_other _ _ _ _ (Ne.symm n68))).trans nh_8) size_code rfl (one5 _ _ _ _ _ _ _) ?_
          refine wpList_nil (then_rest (rest_end (by decide) ?_))
          simp only [Act.put]
          have hUsz := hu.size
          have hUb : Below w.heap.size w u := HVw.out _ (HKd.out.trans (hu.mono HKd.out.size))
          have hWw : w.heap.size ≤ W0.heap.size := by have := HKd.out.size; have := (HVw.out _ HKd.out).size; omega
          generalize (((u.setRow b_6 #[.string nm, .int .i64 N, .int .i64 sl, .int .i64 bo, .slice (some ⟨g1, 0, none⟩) L.length cap1]).setRow b_7 #[.string nm, .int .i64 N, .int .i64 sl, .int .i64 bo, .slice a2 L.length cap2]).setRow b_8 #[.string nm, .int .i64 N, .int .i64 sl, .int .i64 bo, .slice a3 L.length cap3]) = U at *
          have t6 := hT.1
          have t7 := hT.2.1
          have t8 := hT.2.2.1
          have p1 := hT.2.2.2.1
          have p2 := hT.2.2.2.2.1
          have p3 := hT.2.2.2.2.2.1
          have tb := hT.2.2.2.2.2.2.1
          have tsz := hT.2.2.2.2.2.2.2
          clear hT o1 o2 o3 nh_6 nh_7 nh_8
          have x64 : U.cell? ⟨b_6, 4, none⟩ = some (.slice (some ⟨g1, 0, none⟩) L.length cap1) := cell_of_row U b_6 4 _ _ _ t6
          have z64 : U.frozen? ⟨b_6, 4, none⟩ = false := frozen_of_row U b_6 4 _ _ t6
          have x74 : ∀ y, (U.setCell ⟨b_6, 4, none⟩ y).cell? ⟨b_7, 4, none⟩ = some (.slice a2 L.length cap2) := fun y => (World.cell?_of_block (Below.heap_setCell U _ y b_7 (Ne.symm n67))).trans (cell_of_row U b_7 4 _ _ _ t7)
          have hle1 : (0 : Int) ≤ (L.length : Int) - 1 := by omega
          have hle2 : (L.length : Int) - 1 ≤ (cap1 : Int) := by omega
          have hsl1 := HFI.out.slots
          have hsl2 := HFI.out.slots_le
          dsimp only at hsl1 hsl2
          have hck1 : check ⟨nm, N, sl, bo, L.take (L.length - 1)⟩ = 2 := check_less HFI.out
          have hck2 : check ⟨nm, N, sl, bo, L ++ [⟨5, 0, 0, ⟨#[]⟩⟩]⟩ = 2 := check_more HFI.out ⟨5, 0, 0, ⟨#[]⟩⟩ (by dsimp only; omega)
          have hck3 : check ⟨nm, N, sl + 1, bo, L⟩ = 2 := check_slot HFI.out
          have HCK1 := Lib.hid hck1
          have HCK2 := Lib.hid hck2
          have HCK3 := Lib.hid hck3
          have hsB : W0.heap.size ≤ U.heap.size := by omega
          have hPE := fun (w5 : World) (v' : Value) (x : Value) ho hg => parts_end (w5 := w5) (v' := v') (x := x) (q := ⟨5, 0, 0, ⟨#[]⟩⟩) (ns := #[.int .i64 5, .int .i64 0, .int .i64 0, .string ⟨#[]⟩]) (E' := 54) t6 t7 t8 n67 n68 n78 nb_6 nb_7 nb_8 (by decide) p1 p2 p3 hl1 d23 rfl (Nat.sub_le L.length 1) hsB ho hg
          have HPE := Lib.hid hPE
          have hown4 : ((U.setCell ⟨b_6, 4, none⟩ (.slice (some ⟨g1, 0, none⟩) (L.length - 1) cap1)).alloc (.cells #[.int .i64 5, .int .i64 0, .int .i64 0, .string ⟨#[]⟩] 54)).ownsRow W0.heap.size 54 4 (.slice a2 L.length cap2) L.length (flat L) :=
            (owns_at p2 (fun g hg => Below.heap_setCell U _ _ g (owns_ne p2 t6 (by decide) g hg))).alloc _
          obtain ⟨i0, hi0, hz0', hz1', hz2'⟩ := info_parts Try.infoParts
          have HTB := Lib.hid (hUb.trans (tb.mono hWw))
          have hsU : W0.heap.size ≤ U.heap.size := hsB
          clear hck1 hck2 hck3 hPE p1 p2 p3 t6 t7 t8 tb tsz hl1 d21 d23 e1 e2 e3 hsB
          go_wp2_with (at_builtin; refine wpList_append_own _ rfl _ _ 42 rfl W0.heap.size 54 i0 (.agg #[.int .i64 0, .int .i64 0, .int .i64 0, .string ⟨#[]⟩]) 4 40 Try.underlying42 hi0 hz0' hz1' hz2' rfl (by decide) _ _ _ rfl hown4 _ 1 1 [.int .i64 5, .int .i64 0, .int .i64 0, .string ⟨#[]⟩] rfl rfl ?c1 ?c2 ?c3 ?c4 ?c5 ?_)
          case c1 => exact cells_at _ #[.int .i64 5, .int .i64 0, .int .i64 0, .string ⟨#[]⟩] _ (by simp)
          case c2 => exact cells_one ⟨5, 0, 0, ⟨#[]⟩⟩
          case c3 => unfold maxLen; omega
          case c4 => omega
          case c5 => simp; omega
          intro v' w5 hown' hgrow _
          obtain ⟨a5, cap5, rfl⟩ := owns_form hown'
          have hE := HPE.out w5 (.slice a5 (L.length + 1) cap5) (.int .i64 (sl + 1)) hown' hgrow
          have x94 := cell_of_row w5 b_7 4 _ _ _ hE.1.1
          have z94 := frozen_of_row w5 b_7 4 _ _ hE.1.1
          have x102 := cell_of_row _ b_8 2 _ _ _ hE.1.2
          have z102 := frozen_of_row _ b_8 2 _ _ hE.1.2
          have k6 := row5 hE.2.1
          have k7 := row5 hE.2.2.1
          have k8 := row5 hE.2.2.2.1
          have HE := Lib.hid hE.2
          have k60 := k6.1
          have k61 := k6.2.1
          have k62 := k6.2.2.1
          have k63 := k6.2.2.2.1
          have k64 := k6.2.2.2.2
          clear hE k6 k7 k8 hown' hgrow hown4 x64 z64 x74
          go_wp2_with fail
          generalize ((w5.setCell ⟨b_7, 4, none⟩ (.slice a5 (L.length + 1) cap5)).setCell ⟨b_8, 2, none⟩ (.int .i64 (sl + 1))) = F at *
          have hF7 : ∀ u, Below F.heap.size F u → u.heap[b_7]? = some (.cells #[.string nm, .int .i64 N, .int .i64 sl, .int .i64 bo, .slice a5 (L.length + 1) cap5] 44 (0, 0)) := fun u hu => (hu.block _ (Array.getElem?_eq_some_iff.1 HE.out.2.1).1).trans HE.out.2.1
          have hF8 : ∀ u, Below F.heap.size F u → u.heap[b_8]? = some (.cells #[.string nm, .int .i64 N, .int .i64 (sl + 1), .int .i64 bo, .slice a3 L.length cap3] 44 (0, 0)) := fun u hu => (hu.block _ (Array.getElem?_eq_some_iff.1 HE.out.2.2.1).1).trans HE.out.2.2.1
          have HF7 := Lib.hid hF7
          have HF8 := Lib.hid hF8
          clear k60 k61 k62 k63 k64 x94 z94 x102 z102 hF7 hF8
          refine (go_check ⟨nm, N, sl, bo, L.take (L.length - 1)⟩ _ _ HE.out.2.2.2.1).mono ?_
          rintro e w6 ⟨rfl, hb6⟩
          rw [HCK1.out]
          have r7 := row5 (HF7.out w6 hb6)
          have r70 := r7.1
          have r71 := r7.2.1
          have r72 := r7.2.2.1
          have r73 := r7.2.2.2.1
          have r74 := r7.2.2.2.2
          have HB6 := Lib.hid hb6
          clear r7 hb6
          go_wp2_with fail
          have hv2 : InsSl w6 (.slice a5 (L.length + 1) cap5) (L ++ [⟨5, 0, 0, ⟨#[]⟩⟩]) := HE.out.2.2.2.2.1.below HB6.out
          refine (go_check ⟨nm, N, sl, bo, L ++ [⟨5, 0, 0, ⟨#[]⟩⟩]⟩ _ _ hv2).mono ?_
          rintro e w7 ⟨rfl, hb7⟩
          rw [HCK2.out]
          have hb67 := HB6.out.trans (hb7.mono HB6.out.size)
          have r8 := row5 (HF8.out w7 hb67)
          have r80 := r8.1
          have r81 := r8.2.1
          have r82 := r8.2.2.1
          have r83 := r8.2.2.2.1
          have r84 := r8.2.2.2.2
          have HB7 := Lib.hid hb67
          clear r8 hb67 hb7 hv2 r70 r71 r72 r73 r74
          go_wp2_with fail
          have hv3 : InsSl w7 (.slice a3 L.length cap3) L := HE.out.2.2.2.2.2.1.below HB7.out
          refine (go_check ⟨nm, N, sl + 1, bo, L⟩ _ _ hv3).mono ?_
          rintro e w8 ⟨rfl, hb8⟩
          rw [HCK3.out]
          have hb78 := HB7.out.trans (hb8.mono HB7.out.size)
          have HB8 := Lib.hid hb78
          clear hb78 hb8 hv3 r80 r81 r82 r83 r84
          go_wp2
          go_ret
          have hUw := HTB.out
          have hUF := HE.out.2.2.2.2.2.2
          exact says rfl ((hUw.trans (hUF.mono hWw)).trans (HB8.out.mono (by have := hUF.size; omega)))
    · have hck' : (check ⟨nm, ar, sl, bo, L⟩ != 0) = true := by simpa using hck
      clear hck
      go_wp2
      go_ret
      exact says rfl (HVw.out _ hb3)
end Go.Proofs.Ytlndoogiflcoeaa.Cod
