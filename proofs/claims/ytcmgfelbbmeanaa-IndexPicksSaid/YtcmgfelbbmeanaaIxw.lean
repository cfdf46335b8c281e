
/-
  Layer 20: index.New, Keys, walked.
-/
import Derived.Test.YtcmgfelbbmeanaaIxn
import Derived.Deep.Cut
import Derived.Deep.CutRange
import Derived.Deep.DeepCutAuto
import Derived.Deep.DeepMust
namespace Go.Proofs.Ytcmgfelbbmeanaa.Tms
open Go Go.RowKit Go.Proofs.Ytcmgfelbbmeanaa.Reg Go.Proofs.Ytcmgfelbbmeanaa.Rws Go.Proofs.Ytcmgfelbbmeanaa.Maps Go.Proofs.Ytcmgfelbbmeanaa.Cod Go.Instr
set_option linter.unusedVariables false
set_option linter.unusedSimpArgs false

/-- an int in one cell -/
def jKind : Rws.Kind Int where
  T := 3
  sz := 1
  R := fun w P cs a => cs = [.int .i64 a]
  pos := by decide
  len := by rintro w P cs a rfl; rfl
  one := by
    rintro w P cs a rfl v hv
    simp only [List.mem_cons, List.not_mem_nil, or_false] at hv
    subst hv; rfl
  mono := by rintro w w' P P' cs a hP hw rfl; rfl
  lt := by rintro w P cs a rfl; rfl
theorem info_j : (Try.prog.info? 3).map (fun i => (i.zero, i.size, i.bytes)) = some (some (.int .i64 0), 1, 8) := by kernel_rfl
/-- a slice of codes -/
def CosSl (w : World) (v : Value) (Cs : List Cod) : Prop :=
  ∃ a cap, v = .slice a Cs.length cap ∧ Cs.length ≤ cap ∧ cap ≤ maxLen ∧ ∀ j (h : j < Cs.length), ∃ b off vs, a = some ⟨b, off, none⟩ ∧ b < w.heap.size ∧ InsSl w vs Cs[j].l ∧
    w.cell? ⟨b, off + j * 5, none⟩ = some (.string Cs[j].name) ∧ w.cell? ⟨b, off + j * 5 + 1, none⟩ = some (.int .i64 Cs[j].args) ∧ w.cell? ⟨b, off + j * 5 + 2, none⟩ = some (.int .i64 Cs[j].slots) ∧ w.cell? ⟨b, off + j * 5 + 3, none⟩ = some (.int .i64 Cs[j].body) ∧ w.cell? ⟨b, off + j * 5 + 4, none⟩ = some vs
theorem CosSl.below {w w' : World} {v : Value} {Cs : List Cod} (h : CosSl w v Cs) (hb : Below w.heap.size w w') : CosSl w' v Cs := by
  obtain ⟨a, cap, e, h1, h2, h3⟩ := h
  refine ⟨a, cap, e, h1, h2, fun j hj => ?_⟩
  obtain ⟨b, off, vs, e1, hl, hi, c0, c1, c2, c3, c4⟩ := h3 j hj
  have hc := fun o => World.cell?_of_block (w := w) (w' := w') (a := ⟨b, o, none⟩) (hb.block b hl)
  exact ⟨b, off, vs, e1, Nat.lt_of_lt_of_le hl hb.size, hi.below hb, (hc _).trans c0, (hc _).trans c1, (hc _).trans c2, (hc _).trans c3, (hc _).trans c4⟩
/-- the places of a key (none: of those without one) -/
def eqP (q : Option Kx) (x : Option Kx) : Bool := decide (x = q)
/-- an index in memory: rows q are the places of the key q -/
structure IxAt (w : World) (xb mb base : Nat) (all : Int) (M : List (Kx × Value)) (rows : Option Kx → Value) (Ls : List (Option Kx)) : Prop where
  row : w.heap[xb]? = some (.cells #[.int .i64 all, rows none, .map (some mb)] 96 (0, 0))
  map : KMapB kvX w mb M
  get : ∀ k, rows (some k) = (kget k M).getD (.slice none 0 0)
  keys : M.map (·.1) = keysO Ls
  own : ∀ q, Own jKind w base (fun _ => False) (rows q) (posF (eqP q) 0 Ls)
  ap : ∀ q q', q ≠ q' → ∀ b, (rows q).ownBlock = some b → (rows q').ownBlock ≠ some b
  lox : xb < base
  lom : mb < base
  ne : xb ≠ mb
theorem IxAt.below {w w' : World} {xb mb base : Nat} {all : Int} {M : List (Kx × Value)} {rows : Option Kx → Value} {Ls : List (Option Kx)} (h : IxAt w xb mb base all M rows Ls) (hb : Below w.heap.size w w') : IxAt w' xb mb base all M rows Ls :=
  ⟨(hb.block xb (Array.getElem?_eq_some_iff.1 h.row).1).trans h.row, h.map.below (hb.block mb h.map.lt), h.get, h.keys, fun q => (h.own q).below hb, h.ap, h.lox, h.lom, h.ne⟩
theorem IxAt.size {w : World} {xb mb base : Nat} {all : Int} {M : List (Kx × Value)} {rows : Option Kx → Value} {Ls : List (Option Kx)} (h : IxAt w xb mb base all M rows Ls) : xb < w.heap.size := (Array.getElem?_eq_some_iff.1 h.row).1
theorem row5n {w : World} {g : Nat} {y0 y1 y2 y3 y4 : Value} {T : TypeId} {fr : Nat × Nat} (h : w.heap[g]? = some (.cells #[y0, y1, y2, y3, y4] T fr)) :
    w.cell? ⟨g, 0, none⟩ = some y0 ∧ w.cell? ⟨g, 1, none⟩ = some y1 ∧ w.cell? ⟨g, 2, none⟩ = some y2 ∧ w.cell? ⟨g, 3, none⟩ = some y3 ∧ w.cell? ⟨g, 4, none⟩ = some y4 :=
  ⟨cell_of_row w g 0 _ _ _ h, cell_of_row w g 1 _ _ _ h, cell_of_row w g 2 _ _ _ h, cell_of_row w g 3 _ _ _ h, cell_of_row w g 4 _ _ _ h⟩
/-- one row grows -/
def updX (rows : Option Kx → Value) (q : Option Kx) (v : Value) (p : Option Kx) : Value := if p = q then v else rows p
theorem rows_grow {u w' : World} {base : Nat} {rows : Option Kx → Value} {Ls : List (Option Kx)} (ho : ∀ p, Own jKind u base (fun _ => False) (rows p) (posF (eqP p) 0 Ls)) (hap : ∀ q q', q ≠ q' → ∀ b, (rows q).ownBlock = some b → (rows q').ownBlock ≠ some b) (q : Option Kx) {v' : Value}
    (hq : Own jKind w' base (fun _ => False) v' (posF (eqP q) 0 Ls ++ [(Ls.length : Int)])) (hg : u.grownBy w' (rows q).ownBlock) (hv : ∀ k, v'.ownBlock = some k → (rows q).ownBlock = some k ∨ u.heap.size ≤ k) :
    (∀ p, Own jKind w' base (fun _ => False) (updX rows q v' p) (posF (eqP p) 0 (Ls ++ [q]))) ∧ ∀ p p', p ≠ p' → ∀ b, (updX rows q v' p).ownBlock = some b → (updX rows q v' p').ownBlock ≠ some b := by
  have hnew : ∀ p, p ≠ q → ∀ b, (rows p).ownBlock = some b → v'.ownBlock ≠ some b := fun p hp b e e2 => by
    rcases hv b e2 with h | h
    · exact hap p q hp b e h
    · have := ((ho p).low b e).2; omega
  refine ⟨fun p => ?_, fun p p' hne b e e' => ?_⟩
  · unfold updX
    rw [posF_snoc]
    by_cases hp : p = q
    · subst hp
      rw [if_pos rfl, if_pos (by simp [eqP])]
      exact hq
    · rw [if_neg hp, if_neg (by simp [eqP]; exact fun e => hp e.symm)]
      refine (ho p).keep hg.size fun b hlt hb => ?_
      rcases hb with hb | hb
      · exact hb.elim
      · exact hg.block b hlt fun e => hap p q hp b hb e.symm
  · unfold updX at e e'
    by_cases hp : p = q
    · rw [if_pos hp] at e
      rw [if_neg (fun e => hne (hp.trans e.symm))] at e'
      exact hnew p' (fun e => hne (hp.trans e.symm)) b e' e
    · rw [if_neg hp] at e
      by_cases hp' : p' = q
      · rw [if_pos hp'] at e'
        exact hnew p hp b e e'
      · rw [if_neg hp'] at e'
        exact hap p p' hne b e e'
theorem row3n {w : World} {g : Nat} {y0 y1 y2 : Value} {T : TypeId} {fr : Nat × Nat} (h : w.heap[g]? = some (.cells #[y0, y1, y2] T fr)) :
    w.cell? ⟨g, 0, none⟩ = some y0 ∧ w.cell? ⟨g, 1, none⟩ = some y1 ∧ w.cell? ⟨g, 2, none⟩ = some y2 := ⟨cell_of_row w g 0 _ _ _ h, cell_of_row w g 1 _ _ _ h, cell_of_row w g 2 _ _ _ h⟩
/-- a code without a key is put -/
theorem ix_loose {w0 u w9 : World} {xb mb base : Nat} {all : Int} {M : List (Kx × Value)} {rows : Option Kx → Value} {Ls : List (Option Kx)} {i : Nat} {v9 : Value} (h : IxAt u xb mb base all M rows Ls) (hl : Ls.length = i) (hg : u.grownBy w9 (rows none).ownBlock)
    (ho : Own jKind w9 base (fun _ => False) v9 (posF (eqP none) 0 Ls ++ [(i : Int)])) (hv : ∀ k, v9.ownBlock = some k → (rows none).ownBlock = some k ∨ u.heap.size ≤ k) (hb0 : Below w0.heap.size w0 u) (hb : Below base u w9) (hz : base ≤ u.heap.size) (h0 : w0.heap.size ≤ xb) :
    w9.cell? ⟨xb, 1, none⟩ = some (rows none) ∧ w9.frozen? ⟨xb, 1, none⟩ = false ∧ IxAt (w9.setCell ⟨xb, 1, none⟩ v9) xb mb base all M (updX rows none v9) (Ls ++ [none]) ∧ Below w0.heap.size w0 (w9.setCell ⟨xb, 1, none⟩ v9) ∧ base ≤ (w9.setCell ⟨xb, 1, none⟩ v9).heap.size := by
  subst hl
  have hx := h.lox
  have hm := h.lom
  have hxs := h.size
  have hms := h.map.lt
  obtain ⟨r1, r2⟩ := rows_grow h.own h.ap none ho hg hv
  have hrow : w9.heap[xb]? = _ := (hb.block xb hx).trans h.row
  have hmap := h.map.below (hb.block mb hm)
  have hsz : (w9.setCell ⟨xb, 1, none⟩ v9).heap.size = w9.heap.size := by simp [World.setCell]
  refine ⟨cell_of_row _ _ 1 _ _ _ hrow, frozen_of_row w9 xb 1 _ _ hrow, ⟨?_, hmap.below (Below.heap_setCell _ _ _ _ h.ne.symm), fun k => ?_, ?_, fun q => (r1 q).keep (by rw [hsz]; exact Nat.le_refl _) fun b hlt hb => Below.heap_setCell _ _ _ _ ?_, r2, hx, hm, h.ne⟩, ?_, by rw [hsz]; exact Nat.le_trans hz hb.size⟩
  · have := heap_setCell_same w9 xb 1 _ _ v9 hrow
    simpa [updX] using this
  · have := h.get k
    unfold updX
    rw [if_neg (by simp)]
    exact this
  · rw [keysO_snoc]; exact h.keys
  · rcases hb with hb | hb
    · exact hb.elim
    · have := ((r1 q).low b hb).1
      show b ≠ xb
      omega
  · exact (hb0.trans (hb.mono (by have := hb0.size; omega))).setCell h0 _
/-- two blocks that stay -/
structure RdIn (W0 : World) (a b : Nat) (u : World) : Prop where
  l : u.heap[a]? = W0.heap[a]?
  r : u.heap[b]? = W0.heap[b]?
theorem ix_own {W0 W1 w2 : World} {o : Obj} {xb mb base : Nat} {all : Int} {M : List (Kx × Value)} {rows : Option Kx → Value} {Ls : List (Option Kx)} (h : IxAt W0 xb mb base all M rows Ls) (h1 : W1 = W0.alloc o) (hg : W1.grownBy w2 (some mb)) (p : Option Kx) :
    Own jKind w2 base (fun _ => False) (rows p) (posF (eqP p) 0 Ls) := by
  have hm := h.lom
  have hz : W1.heap.size = W0.heap.size + 1 := by rw [h1]; simp
  have hs := hg.size
  refine (h.own p).keep (by omega) fun b hlt hb => ?_
  rcases hb with hb | hb
  · exact hb.elim
  · have := ((h.own p).low b hb).1
    exact (hg.block b (by omega) (by simp; omega)).trans (by rw [h1]; exact Below.heap_alloc _ _ _ hlt)
/-- a code with a key is put -/
theorem ix_keyed {w0 W0 W1 w2 w9 w10 : World} {o : Obj} {xb mb base : Nat} {all : Int} {M : List (Kx × Value)} {rows : Option Kx → Value} {Ls : List (Option Kx)} {i : Nat} {k : Kx} {v9 : Value} (h : IxAt W0 xb mb base all M rows Ls) (hl : Ls.length = i) (h1 : W1 = W0.alloc o) (hg2 : W1.grownBy w2 (some mb))
    (hg : w2.grownBy w9 (rows (some k)).ownBlock) (ho : Own jKind w9 base (fun _ => False) v9 (posF (eqP (some k)) 0 Ls ++ [(i : Int)])) (hv : ∀ j, v9.ownBlock = some j → (rows (some k)).ownBlock = some j ∨ w2.heap.size ≤ j) (hb0 : Below w0.heap.size w0 W0) (hb : Below base w2 w9) (hz : base ≤ W0.heap.size) (h0 : w0.heap.size ≤ mb)
    (hm10 : KMapB kvX w10 mb (kset k v9 M)) (hg10 : w9.grownBy w10 (some mb)) :
    IxAt w10 xb mb base all (kset k v9 M) (updX rows (some k) v9) (Ls ++ [some k]) ∧ Below w0.heap.size w0 w10 ∧ base ≤ w10.heap.size := by
  subst hl
  have hx := h.lox
  have hm := h.lom
  have hxs := h.size
  have z1 : W1.heap.size = W0.heap.size + 1 := by rw [h1]; simp
  have z2 := hg2.size
  have z9 := hb.size
  have z10 := hg10.size
  obtain ⟨r1, r2⟩ := rows_grow (fun p => ix_own h h1 hg2 p) h.ap (some k) ho hg hv
  have hrow1 : w2.heap[xb]? = _ := (hg2.block xb (by omega) (by simp; exact h.ne)).trans ((by rw [h1]; exact Below.heap_alloc _ _ _ hxs : W1.heap[xb]? = W0.heap[xb]?).trans h.row)
  have hrow : w10.heap[xb]? = _ := (hg10.block xb (by omega) (by simp; exact h.ne)).trans ((hb.block xb hx).trans hrow1)
  have hbl : ∀ b, b < w0.heap.size → w10.heap[b]? = w0.heap[b]? := fun b hb' => by
    have := hb0.size
    refine (hg10.block b (by omega) (by simp; omega)).trans ((hb.block b (by omega)).trans ((hg2.block b (by omega) (by simp; omega)).trans ?_))
    rw [h1]
    exact (Below.heap_alloc _ _ _ (by omega)).trans (hb0.block b hb')
  refine ⟨⟨?_, hm10, fun k' => ?_, ?_, fun q => (r1 q).keep z10 fun b hlt hb' => ?_, r2, hx, hm, h.ne⟩, ⟨?_, ?_, ?_, by have := hb0.size; omega, hbl⟩, by omega⟩
  · have e : updX rows (some k) v9 none = rows none := by unfold updX; rw [if_neg (by simp)]
    rw [e]; exact hrow
  · rw [kget_kset]
    unfold updX
    by_cases e : k' = k
    · rw [if_pos (by rw [e]), if_pos e]; rfl
    · rw [if_neg (by simpa using e), if_neg e]; exact h.get k'
  · rw [kset_keys, keysO_snoc, h.keys]; rfl
  · rcases hb' with hb' | hb'
    · exact hb'.elim
    · have := ((r1 q).low b hb').1
      exact hg10.block b hlt (by simp; omega)
  · exact hg10.os.trans (hb.os.trans (hg2.os.trans (by rw [h1]; exact hb0.os)))
  · exact hg10.tape.trans (hb.tape.trans (hg2.tape.trans (by rw [h1]; exact hb0.tape)))
  · exact hg10.output.trans (hb.output.trans (hg2.output.trans (by rw [h1]; exact hb0.output)))
def IxRel (w : World) (xb mb base : Nat) (Cs : List Cod) (vi : Value) (wr : World) : Prop := ∃ (i : Nat) (M : List (Kx × Value)) (rows : Option Kx → Value), i ≤ Cs.length ∧ vi = .int .i64 i ∧ IxAt wr xb mb base Cs.length M rows ((Cs.take i).map codeK) ∧ Below w.heap.size w wr ∧ base ≤ wr.heap.size
set_option maxRecDepth 100000 in
set_option maxHeartbeats 4000000 in
theorem go_New (Cs : List Cod) (v : Value) (w : World) (h : CosSl w v Cs) (hl : ∀ c ∈ Cs, c.l.length ≤ 1000000) (hn : Cs.length ≤ 100000) :
    Calls Try.prog 12 #[v] w fun e w' => e = .returned (.pointer (some ⟨w.heap.size + 1, 0, none⟩)) ∧ ∃ M rows, IxAt w' (w.heap.size + 1) w.heap.size (w.heap.size + 2) Cs.length M rows (Cs.map codeK) ∧ Below w.heap.size w w' := by
  obtain ⟨a, cap, e, h1, h2, h3⟩ := id h
  subst e
  unfold maxLen at h2
  have H := Lib.hid h
  clear h h3
  go_enter Try.func12, Try.ntmps12
  go_wp2_with (with_reducible show wpList _ _ _ (⟨some 10, _, _, _, _, _⟩ :: _) _ _
               refine wpList_imap_made rfl _ rfl ?_)
  obtain ⟨W, hW⟩ : ∃ W, W = (w.alloc (.map #[] 0)).alloc (.cells #[.int .i64 Cs.length, .slice none 0 0, .map (some w.heap.size)] 96 (0, 0)) := ⟨_, rfl⟩
  have hrel0 : IxRel w (w.heap.size + 1) w.heap.size (w.heap.size + 2) Cs (.int .i64 ((0 : Nat) : Int)) W := by
    have hb1 : Below w.heap.size w (w.alloc (.map #[] 0)) := (Below.refl w.heap.size w).alloc (Nat.le_refl _) _
    refine ⟨0, [], fun _ => .slice none 0 0, by omega, rfl, ⟨?_, ?_, fun k => rfl, rfl, fun q => Own.nil _ _ _, (fun q q' _ b e => nomatch e), by omega, by omega, by omega⟩, ?_, ?_⟩
    · rw [hW]; exact two_at _ _ _
    · rw [hW]; exact (KMapB.made w).below (Below.heap_alloc _ _ _ (by simp))
    · rw [hW]; exact hb1.alloc (by simp) _
    · rw [hW]; simp
  have HREL := Lib.hid hrel0
  clear hrel0
  rw [← hW]
  clear hW
  go_loopw [15] (fun v15 wr => IxRel w (w.heap.size + 1) w.heap.size (w.heap.size + 2) Cs v15 wr) (fun v15 _ => Cs.length - (intOf v15).toNat)
  case atStart => exact HREL.out
  case round =>
    clear HREL
    obtain ⟨i, M, rows, hi, rfl, hat, hbel, hbs⟩ := hrel
    have HAT := Lib.hid hat
    have HBEL := Lib.hid hbel
    clear hat hbel
    by_cases hil : i < Cs.length
    · have b1 : decide ((i : Int) < (Cs.length : Int)) = true := by simp; omega
      obtain ⟨a', cap', e, -, -, hel⟩ := id H.out
      simp only [Value.slice.injEq, true_and] at e
      obtain ⟨b, off, vs, e1, hbl, hins, x0, x1, x2, x3, x4⟩ := hel i hil
      have e2 := e.1.trans e1
      subst e2
      obtain ⟨C, hC⟩ : ∃ C, C = Cs[i] := ⟨_, rfl⟩
      have hCl : C.l.length ≤ 1000000 := by rw [hC]; exact hl _ (List.getElem_mem _)
      have htk : (Cs.take (i + 1)).map codeK = (Cs.take i).map codeK ++ [codeK C] := by rw [List.take_succ_eq_append_getElem hil, List.map_append, hC]; rfl
      rw [← hC] at hins x0 x1 x2 x3
      have hc := fun o => HBEL.out.cell (p := ⟨b, o, none⟩) hbl
      replace x0 := (hc _).trans x0
      replace x1 := (hc _).trans x1
      replace x2 := (hc _).trans x2
      replace x3 := (hc _).trans x3
      replace x4 := (hc _).trans x4
      obtain ⟨sa, scap, rfl⟩ := hins.form
      have HINS := Lib.hid (hins.below HBEL.out)
      have HTK := Lib.hid htk
      clear e e1 hel hins hC hc htk
      have hb5 : Below wr.heap.size wr (wr.alloc (.cells #[.string C.name, .int .i64 C.args, .int .i64 C.slots, .int .i64 C.body, .slice sa C.l.length scap] 51 (0, 0))) := (Below.refl wr.heap.size wr).alloc (Nat.le_refl _) _
      have hr5 := heap_alloc_new wr (.cells #[.string C.name, .int .i64 C.args, .int .i64 C.slots, .int .i64 C.body, .slice sa C.l.length scap] 51 (0, 0))
      have HB5 := Lib.hid hb5
      have HI5 := Lib.hid (HINS.out.below hb5)
      have y := row5n hr5
      obtain ⟨y0, y1, y2, y3, y4⟩ := y
      clear hb5 hr5
      go_wp2_with fail
      refine (go_codeKey C _ _ HI5.out hCl).mono ?_
      rintro e6 w6 ⟨rfl, hb6⟩
      have hat6 := (HAT.out.below HB5.out).below hb6
      have hz6 : w.heap.size + 2 ≤ w6.heap.size := by have := HB5.out.size; have := hb6.size; omega
      have hbel6 := HBEL.out.trans ((HB5.out.trans (hb6.mono HB5.out.size)).mono HBEL.out.size)
      clear y0 y1 y2 y3 y4 x0 x1 x2 x3 x4 HI5 HB5 HINS hb6 HAT HBEL hbs
      obtain ⟨Ls, hLs⟩ : ∃ Ls, Ls = (Cs.take i).map codeK := ⟨_, rfl⟩
      have hlen : Ls.length = i := by rw [hLs, List.length_map, List.length_take]; omega
      have htk := HTK.out
      rw [← hLs] at hat6 htk
      clear HTK hLs
      obtain ⟨kk, hkk⟩ : ∃ kk, kk = kvX ((codeK C).getD noKx) := ⟨_, rfl⟩
      rw [← hkk]
      obtain ⟨op, ar, n, s, hkf⟩ : ∃ op ar n s, kk = .agg #[.int .i64 op, .int .i64 ar, .int .i64 n, .string s] := ⟨_, _, _, _, hkk⟩
      have hba : Below w6.heap.size w6 (w6.alloc (.cells #[.int .i64 op, .int .i64 ar, .int .i64 n, .string s] 98 (0, 0))) := (Below.refl w6.heap.size w6).alloc (Nat.le_refl _) _
      have hra := heap_alloc_new w6 (.cells #[.int .i64 op, .int .i64 ar, .int .i64 n, .string s] 98 (0, 0))
      have HAT7 := Lib.hid (hat6.below hba)
      have HB7 := Lib.hid (hbel6.trans (hba.mono hbel6.size))
      have HR7 := Lib.hid hra
      have HTK := Lib.hid htk
      have HLEN := Lib.hid hlen
      have hz7 : w.heap.size + 2 ≤ (w6.alloc (.cells #[.int .i64 op, .int .i64 ar, .int .i64 n, .string s] 98 (0, 0))).heap.size := by simp; omega
      obtain ⟨w7, hw7⟩ : ∃ w7, w7 = w6.alloc (.cells #[.int .i64 op, .int .i64 ar, .int .i64 n, .string s] 98 (0, 0)) := ⟨_, rfl⟩
      have HZ7 := Lib.hid hz7
      rw [← hw7] at HAT7 HB7 HR7 HZ7
      have HKF := Lib.hid hkf
      have HKL := Lib.hid (fun (q : Option Kx) (e : (rows q).ownBlock = some w6.heap.size) => (by have := ((hat6.own q).low _ e).2; omega : False))
      clear hat6 hbel6 hba hra htk hlen hz7
      cases hq : codeK C with
      | none =>
        rw [hq] at HTK
        clear hkk
        subst hkf
        go_upto_region 8 with fail
        rw [← hw7]
        clear hw7
        obtain ⟨qv, qc, hqv⟩ := own_formX (HAT7.out.own none)
        obtain ⟨qn, hqn⟩ : ∃ qn, qn = (posF (eqP none) 0 Ls).length := ⟨_, rfl⟩
        rw [← hqn] at hqv
        have hqn1 : qn ≤ 100000 := by rw [hqn]; have := posF_len (eqP none) Ls 0; have := HLEN.out; omega
        have hrow := HAT7.out.row
        rw [hqv] at hrow
        obtain ⟨z0, z1, z2⟩ := row3n hrow
        have hb8 : Below w7.heap.size w7 (w7.alloc (.cells #[.int .i64 i] 3 (0, 0))) := (Below.refl w7.heap.size w7).alloc (Nat.le_refl _) _
        have hn8 := heap_alloc_new w7 (.cells #[.int .i64 i] 3 (0, 0))
        have HAT8 := Lib.hid (HAT7.out.below hb8)
        have HB8 := Lib.hid (HB7.out.trans (hb8.mono HB7.out.size))
        have HN8 := Lib.hid hn8
        have hz8 : w.heap.size + 2 ≤ (w7.alloc (.cells #[.int .i64 i] 3 (0, 0))).heap.size := by have := HZ7.out; simp; omega
        have HZ8 := Lib.hid hz8
        have HO8 := HAT8.out.own none
        rw [hqv] at HO8
        have HOO := Lib.hid HO8
        have HQV := Lib.hid hqv
        have HQN := Lib.hid hqn
        clear hrow hb8 hn8 hz8 HO8 HAT7 HB7 HZ7 HR7 hqv hqn
        go_wp2_with (with_reducible show wpList _ _ _ (⟨some 44, _, _, _, _, _⟩ :: _) _ _
                     go_must (
                       refine wpList_put (K := jKind) rfl (.tmp 41) (.tmp 43) _ rfl Try.underlying37 info_j rfl (w.heap.size + 2) (fun _ => False) _ (posF (eqP none) 0 Ls) [.int .i64 i] (i : Int) _ _ _ _ rfl HOO.out rfl HN8.out rfl (by have := HQN.out; unfold maxLen; omega) (by have := HQN.out; omega) HZ8.out ?_
                       intro v9 w9 ho9 hb9 hg9 hv9
                       obtain ⟨q9, c9, e9⟩ := own_formX ho9
                       rw [List.length_append, List.length_singleton, ← HQN.out] at e9
                       subst e9
                       have hend := ix_loose HAT8.out HLEN.out (HQV.out ▸ hg9) ho9 (by rw [HQV.out]; exact hv9) HB8.out hb9 HZ8.out (by omega)
                       obtain ⟨u1, u2, hfin⟩ := hend
                       rw [HQV.out] at u1
                       have HFIN := Lib.hid hfin
                       clear ho9 hb9 hg9 hv9 hfin))
        have HRL := Lib.hid (show IxRel w (w.heap.size + 1) w.heap.size (w.heap.size + 2) Cs (.int .i64 ((i + 1 : Nat) : Int)) (w9.setCell ⟨w.heap.size + 1, 1, none⟩ (.slice q9 (qn + 1) c9)) from ⟨i + 1, M, _, by omega, rfl, by rw [HTK.out]; exact HFIN.out.1, HFIN.out.2.1, HFIN.out.2.2⟩)
        clear z0 z1 z2 HAT8 HB8 HN8 HZ8 HOO HQV HQN HFIN HTK HKF
        go_roundw
        case measure => simp [intOf]; omega
        case rel => exact HRL.out
      | some k =>
        rw [hq] at HTK
        rw [hq, Option.getD_some] at hkk
        obtain ⟨k1, k2, k3, k4⟩ := k
        have hke : kvX (k1, k2, k3, k4) = .agg #[.int .i64 op, .int .i64 ar, .int .i64 n, .string s] := hkk.symm.trans hkf
        simp only [kvX, Value.agg.injEq, Array.mk.injEq, List.cons.injEq, Value.int.injEq, Value.string.injEq, true_and, and_true] at hke
        obtain ⟨rfl, rfl, rfl, rfl⟩ := hke
        clear hkk HKF
        subst hkf
        go_upto_region 7 with fail
        rw [← hw7]
        clear hw7
        refine wp_region_rest (by kernel_rfl) ?_
        have hdb := (Below.refl w7.heap.size w7).drew
        have HAT8 := Lib.hid (HAT7.out.below hdb)
        have HB8 := Lib.hid (HB7.out.trans (hdb.mono HB7.out.size))
        have HZ8 := Lib.hid (Nat.le_trans HZ7.out hdb.size)
        have HR8 := Lib.hid ((hdb.block w6.heap.size (Array.getElem?_eq_some_iff.1 HR7.out).1).trans HR7.out)
        clear hdb HAT7 HB7 HZ7 HR7
        generalize w7.drew = W0 at *
        have HKN := Lib.hid (show w6.heap.size ≠ w.heap.size by omega)
        have HKO := Lib.hid (fun (e : (rows (some (k1, k2, k3, k4))).ownBlock = some w6.heap.size) => HKL.out _ e)
        generalize w6.heap.size = kb at *
        generalize hK : ((k1, k2, k3, k4) : Kx) = k at *
        have HKK := Lib.hid (show kvX k = .agg #[.int .i64 k1, .int .i64 k2, .int .i64 k3, .string k4] from by rw [← hK]; rfl)
        clear hK
        obtain ⟨qv, qc, hqv⟩ := own_formX (HAT8.out.own (some k))
        obtain ⟨qn, hqn⟩ : ∃ qn, qn = (posF (eqP (some k)) 0 Ls).length := ⟨_, rfl⟩
        rw [← hqn] at hqv
        have hqn1 : qn ≤ 100000 := by rw [hqn]; have := posF_len (eqP (some k)) Ls 0; have := HLEN.out; omega
        have HQV := Lib.hid hqv
        have HQN := Lib.hid hqn
        have HGT := Lib.hid (show (kget k M).getD (.slice none 0 0) = .slice qv qn qc from (HAT8.out.get k).symm.trans hqv)
        clear hqv hqn
        refine rest_chainP (RdIn W0 (w.heap.size + 1) kb) 0 12 (.soft 0 (.soft 1 (.soft 2 (.soft 3 (.soft 4 (.soft 5 (.one 6 (.one 7 (.soft 8 (.soft 10 (.one 9 (.one 11 .nil)))))))))))) (.soft _ (.soft _ (.soft _ (.soft _ (.soft _ (.soft _ (.one _ (.one _ (.soft _ (.soft _ (.one _ (.one _ .nil)))))))))))) ⟨rfl, ⟨rfl, ⟨rfl, ⟨rfl, ⟨rfl, ⟨rfl, ⟨rfl, ⟨rfl, ⟨rfl, ⟨rfl, ⟨rfl, ⟨rfl, trivial⟩⟩⟩⟩⟩⟩⟩⟩⟩⟩⟩⟩ (by kernel_rfl) (by kernel_rfl) (by kernel_rfl) (by kernel_rfl) (.inl rfl) ⟨rfl, rfl⟩ ?_
        refine chainP_soft (a1 := ?ma1) (by kernel_rfl) (by kernel_rfl) ?mh1 ?mr1
        case mh1 =>
          intro u hu E hE
          go_wp2
          rfl
        refine chainP_nck _ _ rfl rfl rfl ?_
        simp only [Act.put, List.getElem?_toArray, List.getElem?_cons_succ, List.getElem?_cons_zero, Option.bind_some, List.setIfInBounds_toArray, List.set_cons_succ, List.set_cons_zero, Nat.reduceAdd]
        refine chainP_soft (a1 := ?ma2) (by kernel_rfl) (by kernel_rfl) ?mh2 ?mr2
        case mh2 =>
          intro u hu E hE
          go_wp2
          rfl
        refine chainP_soft (a1 := ?ma3) (by kernel_rfl) (by kernel_rfl) ?mh3 ?mr3
        case mh3 =>
          intro u hu E hE
          obtain ⟨z0, z1, z2⟩ := row3n (hu.l.trans HAT8.out.row)
          go_wp2
          rfl
        refine chainP_soft (a1 := ?ma4) (by kernel_rfl) (by kernel_rfl) ?mh4 ?mr4
        case mh4 =>
          intro u hu E hE
          obtain ⟨z0, z1, z2, z3⟩ := row4 (hu.r.trans HR8.out)
          go_wp2
          rfl
        refine chainP_soft (a1 := ?ma5) (by kernel_rfl) (by kernel_rfl) ?mh5 ?mr5
        case mh5 =>
          intro u hu E hE
          go_wp2
          rfl
        refine chainP_one ?_
        intro E hE
        go_wp2
        have hx := HAT8.out.size
        have hkb := (Array.getElem?_eq_some_iff.1 HR8.out).1
        have hms := HAT8.out.map.lt
        refine ⟨⟨Below.heap_alloc _ _ _ hx, Below.heap_alloc _ _ _ hkb⟩, ?_⟩
        have HN1 := Lib.hid (heap_alloc_new W0 (.cells #[.int .i64 i] 3 (0, 0)))
        have HM1 := Lib.hid (HAT8.out.map.below (Below.heap_alloc W0 (.cells #[.int .i64 i] 3 (0, 0)) w.heap.size hms))
        have hz1 : (W0.alloc (.cells #[.int .i64 i] 3 (0, 0))).heap.size = W0.heap.size + 1 := by simp
        obtain ⟨W1, hW1⟩ : ∃ W1, W1 = W0.alloc (.cells #[.int .i64 i] 3 (0, 0)) := ⟨_, rfl⟩
        rw [← hW1] at HN1 HM1 hz1 ⊢
        have HW1 := Lib.hid hW1
        clear hW1
        refine chainP_one ?_
        intro E hE
        refine wpList_kmap_entry keyX rfl _ _ _ rfl _ Try.underlying94 w.heap.size M rfl HM1.out k HKK.out.symm (.slice none 0 0) (fun w => by kernel_rfl) ?_
        intro w2 st hen hg2
        rw [HGT.out]
        have HEN := Lib.hid hen
        have HG2 := Lib.hid hg2
        have hz2 := hg2.size
        have HO2 := Lib.hid (ix_own HAT8.out HW1.out hg2 (some k))
        have HN2 := Lib.hid ((hg2.block W0.heap.size (by omega) (by have := HAT8.out.lom; have := HZ8.out; simp; omega)).trans HN1.out)
        have hq1 : w2.heap[w.heap.size + 1]? = W0.heap[w.heap.size + 1]? := (hg2.block _ (by omega) (by simp)).trans (by rw [HW1.out]; exact Below.heap_alloc _ _ _ hx)
        have hkbn : kb ≠ w.heap.size := HKN.out
        have hq2 : w2.heap[kb]? = W0.heap[kb]? := (hg2.block _ (by omega) (by simp; exact hkbn)).trans (by rw [HW1.out]; exact Below.heap_alloc _ _ _ hkb)
        rw [HQV.out] at HO2
        clear hen hg2 HN1 HM1
        refine hE _ _ ⟨⟨hq1, hq2⟩, ?_⟩
        simp only [Act.put, List.getElem?_toArray, List.getElem?_cons_succ, List.getElem?_cons_zero, Option.bind_some, List.setIfInBounds_toArray, List.set_cons_succ, List.set_cons_zero, Nat.reduceAdd]
        refine chainP_soft (a1 := ?ma6) (by kernel_rfl) (by kernel_rfl) ?mh6 ?mr6
        case mh6 =>
          intro u hu E hE
          go_wp2
          rfl
        refine chainP_soft (a1 := ?ma7) (by kernel_rfl) (by kernel_rfl) ?mh7 ?mr7
        case mh7 =>
          intro u hu E hE
          go_wp2
          rfl
        refine chainP_one ?_
        intro E hE
        refine wpList_put (K := jKind) rfl (.tmp 31) (.tmp 33) _ rfl Try.underlying37 info_j rfl (w.heap.size + 2) (fun _ => False) _ (posF (eqP (some k)) 0 Ls) [.int .i64 i] (i : Int) _ _ _ _ rfl HO2.out rfl HN2.out rfl (by have := HQN.out; unfold maxLen; omega) (by have := HQN.out; omega) (by have := HZ8.out; omega) ?_
        intro v9 w9 ho9 hb9 hg9 hv9
        have hr1 := (hb9.block (w.heap.size + 1) (by omega)).trans hq1
        have hr2 : w9.heap[kb]? = W0.heap[kb]? := by
          refine (hg9.block kb (by omega) ?_).trans hq2
          intro e
          have := HQV.out ▸ (HAT8.out.own (some k))
          exact HKO.out (HQV.out ▸ e.symm)
        have HF := Lib.hid (fun w10 h1 h2 => ix_keyed (w10 := w10) HAT8.out HLEN.out HW1.out HG2.out (HQV.out ▸ hg9) ho9 (by rw [HQV.out]; exact hv9) HB8.out hb9 HZ8.out (by omega) h1 h2)
        have HEN9 := Lib.hid (HEN.out.below (hb9.block w.heap.size (by omega)))
        clear ho9 hg9 hv9 hb9 hq1 hq2 HEN HG2 HO2 HN2
        refine hE _ _ ⟨⟨hr1, hr2⟩, ?_⟩
        simp only [Act.put, List.getElem?_toArray, List.getElem?_cons_succ, List.getElem?_cons_zero, Option.bind_some, List.setIfInBounds_toArray, List.set_cons_succ, List.set_cons_zero, Nat.reduceAdd]
        refine chainP_one ?_
        intro E hE
        refine wpList_kmap_estore rfl _ _ _ _ rfl w.heap.size M rfl k st HEN9.out rfl v9 rfl ?_
        intro w10 hm10 hg10
        obtain ⟨f1, f2, f3⟩ := HF.out w10 hm10 hg10
        have hz9 : w.heap.size + 1 < w9.heap.size := (Array.getElem?_eq_some_iff.1 (hr1.trans HAT8.out.row)).1
        have hz9k : kb < w9.heap.size := (Array.getElem?_eq_some_iff.1 (hr2.trans HR8.out)).1
        refine hE _ _ ⟨⟨(hg10.block _ hz9 (by simp)).trans hr1, (hg10.block _ hz9k (by simp; exact hkbn)).trans hr2⟩, ?_⟩
        refine chainP_nil (rest_end (by decide) ?_)
        have HRL := Lib.hid (show IxRel w (w.heap.size + 1) w.heap.size (w.heap.size + 2) Cs (.int .i64 ((i + 1 : Nat) : Int)) w10 from ⟨i + 1, kset k v9 M, _, by omega, rfl, by rw [HTK.out]; exact f1, f2, f3⟩)
        clear hm10 hg10 f1 f2 f3 HF HEN9 hr1 hr2 HAT8 HB8 HZ8 HR8 HQV HQN HGT HW1 HTK HKK
        simp only [Act.put, List.getElem?_toArray, List.getElem?_cons_succ, List.getElem?_cons_zero, Option.bind_some, List.setIfInBounds_toArray, List.set_cons_succ, List.set_cons_zero, Nat.reduceAdd]
        go_wp2
        go_roundw
        case measure => simp [intOf]; omega
        case rel => exact HRL.out
    · have b1 : decide ((i : Int) < (Cs.length : Int)) = false := by simp; omega
      have e : i = Cs.length := by omega
      subst e
      have hfin := HAT.out
      rw [List.take_length] at hfin
      have HFIN := Lib.hid hfin
      clear hfin HAT
      go_wp2
      go_ret
      exact ⟨rfl, _, _, HFIN.out, HBEL.out⟩
end Go.Proofs.Ytcmgfelbbmeanaa.Tms
