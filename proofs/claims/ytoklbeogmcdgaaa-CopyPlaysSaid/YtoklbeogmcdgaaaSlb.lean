
/-
  Layer 8 as its laws see it: a store of the law's own; what each step leaves of it, and of all that isn't its.
  StoreCuts, plain: two terms are put, a variable is bound, undone, cut.
  StoreBinds and StoreUndoes, plain: what following is once more is bound; a chain of variables; undoing gives back what was.
  Layer 8 as its laws see it: Put and Fresh, whatever they answer; Look.
-/
import Derived.Test.YtoklbeogmcdgaaaPlt
import Derived.Test.YtoklbeogmcdgaaaAl8
import Derived.Test.YtoklbeogmcdgaaaStd
import Derived.Test.YtoklbeogmcdgaaaLow
namespace Go.Proofs.Ytoklbeogmcdgaaa.Tms
open Go Go.RowKit Go.Proofs.Ytoklbeogmcdgaaa.Reg Go.Proofs.Ytoklbeogmcdgaaa.Rws Go.Proofs.Ytoklbeogmcdgaaa.Maps
set_option linter.unusedVariables false
set_option linter.unusedSimpArgs false

/-- a block that isn't the store's -/
def Free (D : Nat → Prop) (w : World) (b : Nat) : Prop := ¬ D b ∧ b < w.heap.size
/-- what isn't the store's stays -/
structure Step (D : Nat → Prop) (w : World) (D' : Nat → Prop) (w' : World) : Prop where
  size : w.heap.size ≤ w'.heap.size
  blk : ∀ b, Free D w b → Free D' w' b ∧ w'.heap[b]? = w.heap[b]?
theorem Step.refl (D : Nat → Prop) (w : World) : Step D w D w := ⟨Nat.le_refl _, fun b h => ⟨h, rfl⟩⟩
theorem Step.trans {D D' D'' : Nat → Prop} {w w' w'' : World} (h : Step D w D' w') (h' : Step D' w' D'' w'') : Step D w D'' w'' := ⟨Nat.le_trans h.size h'.size, fun b hb => ⟨(h'.blk b (h.blk b hb).1).1, (h'.blk b (h.blk b hb).1).2.trans (h.blk b hb).2⟩⟩
structure Law8 (w0 : World) (p : Nat) (S : Sto) (D : Nat → Prop) (w : World) : Prop where
  sto : StoAt w D p S
  own : ∀ b, D b → w0.heap.size ≤ b
  bel : Below w0.heap.size w0 w
section
variable {w0 w w' : World} {p : Nat} {S S' : Sto} {D D' : Nat → Prop}
theorem Law8.dl (h : Law8 w0 p S D w) : ∀ b, D b → b < w.heap.size := h.sto.dl''
theorem Law8.keeps (h : Law8 w0 p S D w) {M : Nat → Prop} (hM : ∀ b, M b → D b ∨ w.heap.size ≤ b) (hk : Keeps w w' M) : Below w0.heap.size w0 w' :=
  ⟨hk.os.trans h.bel.os, hk.tape.trans h.bel.tape, hk.output.trans h.bel.output, Nat.le_trans h.bel.size hk.size, fun b hlt => by
    have := h.bel.size
    exact (hk.block b (by omega) fun e => by rcases hM b e with e | e; have := h.own b e; omega; omega).trans (h.bel.block b hlt)⟩
theorem Law8.did (h : Law8 w0 p S D w) (hd : StoDid w w' D p S') : ∃ D', Law8 w0 p S' D' w' ∧ Step D w D' w' := by
  obtain ⟨D', h1, h2, h3⟩ := hd
  have hs := h.bel.size
  refine ⟨D', ⟨h1, fun b hb => ?_, h.keeps (fun b hb => .inl hb) h2⟩, h2.size, fun b hb => ⟨⟨fun e => ?_, Nat.lt_of_lt_of_le hb.2 h2.size⟩, h2.block b hb.2 hb.1⟩⟩
  · rcases h3 b hb with e | e
    · exact h.own b e
    · omega
  · rcases h3 b e with e | e
    · exact hb.1 e
    · have := hb.2; omega
theorem Law8.kept (h : Law8 w0 p S D w) (h1 : StoAt w' D p S') (h2 : Keeps w w' D) : Law8 w0 p S' D w' ∧ Step D w D w' :=
  ⟨⟨h1, h.own, h.keeps (fun b hb => .inl hb) h2⟩, h2.size, fun b hb => ⟨⟨hb.1, Nat.lt_of_lt_of_le hb.2 h2.size⟩, h2.block b hb.2 hb.1⟩⟩
theorem Law8.below (h : Law8 w0 p S D w) (hb : Below w.heap.size w w') : Law8 w0 p S D w' ∧ Step D w D w' ∧ ∀ b, w.heap.size ≤ b → b < w'.heap.size → Free D w' b :=
  ⟨⟨h.sto.below hb, h.own, h.bel.trans (hb.mono h.bel.size)⟩, ⟨hb.size, fun b hf => ⟨⟨hf.1, Nat.lt_of_lt_of_le hf.2 hb.size⟩, hb.block b hf.2⟩⟩, fun b h1 h2 => ⟨fun e => by have := h.dl b e; omega, h2⟩⟩
theorem Law8.alloc (h : Law8 w0 p S D w) (o : Obj) : Law8 w0 p S D (w.alloc o) ∧ Step D w D (w.alloc o) ∧ Free D (w.alloc o) w.heap.size ∧ (w.alloc o).heap[w.heap.size]? = some o := by
  obtain ⟨h1, h2, h3⟩ := h.below (below_new w o)
  exact ⟨h1, h2, h3 _ (Nat.le_refl _) (by simp), heap_alloc_new w o⟩
theorem IsTm.step {v : Value} {t : Tm} (h : IsTm w (Free D w) v t) (hs : Step D w D' w') : IsTm w' (Free D' w') v t := h.imp (fun b hb => (hs.blk b hb).1) fun b hb _ => (hs.blk b hb).2
theorem IsSl.step {v : Value} {t : List Tm} (h : IsSl w (Free D w) v t) (hs : Step D w D' w') : IsSl w' (Free D' w') v t := h.imp (fun b hb => (hs.blk b hb).1) fun b hb _ => (hs.blk b hb).2
/-- a row that isn't the store's -/
def RowF (D : Nat → Prop) (w : World) (r : Nat) (o : Obj) : Prop := Free D w r ∧ w.heap[r]? = some o
theorem RowF.step {r : Nat} {o : Obj} (h : RowF D w r o) (hs : Step D w D' w') : RowF D' w' r o := ⟨(hs.blk r h.1).1, (hs.blk r h.1).2.trans h.2⟩
/-- a term that was made just now -/
theorem Law8.made (h : Law8 w0 p S D w) (hb : Below w.heap.size w w') {v : Value} {t : Tm} (hi : IsTm w' (fun b => w.heap.size ≤ b) v t) : IsTm w' (Free D w') v t :=
  hi.low.imp (fun b hb' => (h.below hb).2.2 b hb'.1 hb'.2) fun _ _ _ => rfl
/-! ### What each step leaves -/
def LawDid (w0 : World) (p : Nat) (D : Nat → Prop) (w : World) (S' : Sto) (w' : World) : Prop := ∃ D', Law8 w0 p S' D' w' ∧ Step D w D' w'
theorem law_New (w0 w : World) (hb : Below w0.heap.size w0 w) (n : Int) (h1 : 1 ≤ n) (h2 : n ≤ 16777216) :
    Calls Try.prog 16 #[.int .i64 n] w fun e w' => e = .returned (.tuple #[.pointer (some ⟨w.heap.size, 0, none⟩), .int .i64 0]) ∧ ∃ D', Law8 w0 w.heap.size ⟨n, [], []⟩ D' w' ∧ Below w.heap.size w w' := by
  refine (sto_New n w h1 h2).mono ?_
  rintro e w' ⟨rfl, hs, hb'⟩
  exact ⟨rfl, _, ⟨hs, fun b e => by rw [e]; exact hb.size, hb.trans (hb'.mono hb.size)⟩, hb'⟩
theorem law_Put (h : Law8 w0 p S D w) (hI : Inv S) {t : Tm} {v : Value} {P : Nat → Prop} (ht : IsTm w P v t) (hP : ∀ b, P b → ¬ D b) (hm : MayPut S [] t) (hs : t.size ≤ 2000) :
    Calls Try.prog 17 #[.pointer (some ⟨p, 0, none⟩), v, .map none] w fun e w' => e = .returned (.tuple #[.int .i64 (S.cells.length : Nat), .int .i64 0]) ∧ LawDid w0 p D w (putS S [] t) w' := by
  refine (sto_Put_ok w h.sto t v none P [] (by omega) ht (.inl ⟨rfl, rfl⟩) (fun b e => by cases e) hP (by have := hI.small; omega) hI.room0 hI.room hm.chk hm.cnt hm.fit).mono ?_
  intro e w' hp
  obtain ⟨rfl, hd⟩ := put_nil hp ⟨rfl, put_base' S t⟩
  exact ⟨rfl, h.did hd⟩
open Classical in
/-- what Bind answers -/
noncomputable def bindE (S : Sto) (x y : Int) : Int := if ¬ (0 ≤ x ∧ x < S.cells.length) ∨ ¬ (0 ≤ y ∧ y < S.cells.length) then 2 else if (cellF S x.toNat).k = 1 then 0 else 2
open Classical in
/-- what Bind leaves -/
noncomputable def bindW (S : Sto) (x y : Int) : Sto := if ¬ (0 ≤ x ∧ x < S.cells.length) ∨ ¬ (0 ≤ y ∧ y < S.cells.length) then S else if (cellF S x.toNat).k = 1 ∧ fol S x.toNat ≠ fol S y.toNat then bindS S (fol S x.toNat) (fol S y.toNat) else S
theorem law_Bind (h : Law8 w0 p S D w) (hI : Inv S) (x y : Int) :
    Calls Try.prog 22 #[.pointer (some ⟨p, 0, none⟩), .int .i64 x, .int .i64 y] w fun e w' => e = .returned (.int .i64 (bindE S x y)) ∧ LawDid w0 p D w (bindW S x y) w' := by
  by_cases hn : ¬ (0 ≤ x ∧ x < S.cells.length) ∨ ¬ (0 ≤ y ∧ y < S.cells.length)
  · refine (sto_Bind_no w h.sto x y hn).mono ?_
    rintro e w' ⟨rfl, rfl⟩
    exact ⟨by unfold bindE; rw [if_pos hn], by unfold bindW; rw [if_pos hn]; exact ⟨D, h, Step.refl _ _⟩⟩
  · obtain ⟨⟨h0, h1⟩, h2, h3⟩ : (0 ≤ x ∧ x < S.cells.length) ∧ (0 ≤ y ∧ y < S.cells.length) := by
      constructor
      · exact Classical.byContradiction fun e => hn (.inl e)
      · exact Classical.byContradiction fun e => hn (.inr e)
    obtain ⟨x, rfl⟩ : ∃ n : Nat, x = n := ⟨x.toNat, by omega⟩
    obtain ⟨y, rfl⟩ : ∃ n : Nat, y = n := ⟨y.toNat, by omega⟩
    have eb : bindE S x y = if (cellF S x).k = 1 then 0 else 2 := by unfold bindE; rw [if_neg hn]; rfl
    have ew : bindW S x y = if (cellF S x).k = 1 ∧ fol S x ≠ fol S y then bindS S (fol S x) (fol S y) else S := by unfold bindW; rw [if_neg hn]; rfl
    rw [eb, ew]
    obtain ⟨f1, c1, g1⟩ := hI.stoIn.fol (x := x) (by omega)
    obtain ⟨f2, c2, g2⟩ := hI.stoIn.fol (x := y) (by omega)
    have gk : (S.cells[fol S x]'(c1.end_.1)).k = (cellF S x).k := by
      obtain ⟨h, e⟩ := List.getElem?_eq_some_iff.1 g1
      rw [e]
    by_cases hc : (cellF S x).k = 1 ∧ fol S x ≠ fol S y
    · rw [if_pos hc, if_pos hc.1]
      refine (sto_Bind w h.sto hI.stoOk f1 f2 x y _ _ c1 c2 (gk.trans hc.1) hc.2).mono ?_
      rintro e w' ⟨rfl, hd⟩
      exact ⟨rfl, h.did hd⟩
    · rw [if_neg hc]
      refine (sto_Bind_id w h.sto f1 f2 x y _ _ c1 c2 fun e => Classical.byContradiction fun e2 => hc ⟨gk.symm.trans e, e2⟩).mono ?_
      rintro e w' ⟨rfl, rfl⟩
      exact ⟨by rw [gk], D, h, Step.refl _ _⟩
end
set_option maxRecDepth 100000 in
set_option maxHeartbeats 4000000 in
theorem sto_Get_no {S : Sto} {D : Nat → Prop} {p : Nat} (w : World) (hS : StoAt w D p S) (x : Int) (hx : ¬ (0 ≤ x ∧ x < S.cells.length)) :
    Calls Try.prog 20 #[.pointer (some ⟨p, 0, none⟩), .int .i64 x] w fun e w' => e = .returned (.tuple #[aggT zeroTm none 0, .int .i64 2]) ∧ Below w.heap.size w w' := by
  have hb0 := below_new w (.cells #[.int .i64 0, .int .i64 0, .string ⟨#[]⟩, .slice none 0 0] 33 (0, 0))
  have hn0 := heap_alloc_new w (.cells #[.int .i64 0, .int .i64 0, .string ⟨#[]⟩, .slice none 0 0] 33 (0, 0))
  have HS := Lib.hid (hS.below hb0)
  have HB := Lib.hid hb0
  have HN := Lib.hid hn0
  have HX := Lib.hid (dec_no hx)
  clear hb0 hn0 hx hS
  go_enter Try.func20, Try.ntmps20
  go_wp2_with fail
  refine (sto_there _ HS.out x).mono ?_
  rintro e1 w1 ⟨rfl, rfl⟩
  rw [HX.out]
  go_wp2_with (with_reducible show wpList _ _ _ (⟨none, .store _ (.tmp 4) _, _, _, _, _⟩ :: _) _ _
               refine wpList_store_row rfl 33 (.tmp 4) (.tmp 18) rfl w.heap.size #[.int .i64 0, .int .i64 0, .string ⟨#[]⟩, .slice none 0 0] rfl rfl _ _ HN.out size_term rfl (one4 _ _ _ _ _ _) ?_)
  have hz := setRow_heap _ w.heap.size _ #[.int .i64 0, .int .i64 0, .string ⟨#[]⟩, .slice none 0 0] _ _ HN.out
  exact bodyPost_ret (v := .tuple #[aggT zeroTm none 0, .int .i64 2]) (Push.results_cell_tmp Try.results20 _ _ w.heap.size _ _ _ _ _ rfl (by simp) hz Try.underlying33 rfl (by kernel_rfl)) rfl ⟨rfl, below_setRow HB.out (Nat.le_refl _) _⟩
end Go.Proofs.Ytoklbeogmcdgaaa.Tms
namespace Go.Proofs.Ytoklbeogmcdgaaa.Tms
open Go Go.RowKit Go.Proofs.Ytoklbeogmcdgaaa.Reg Go.Proofs.Ytoklbeogmcdgaaa.Rws Go.Proofs.Ytoklbeogmcdgaaa.Maps
set_option linter.unusedVariables false
set_option linter.unusedSimpArgs false

/-- no cell is bound -/
def NoLk (S : Sto) : Prop := ∀ c ∈ S.cells, c.lk = -1
theorem NoLk.put {S : Sto} (h : NoLk S) {M : List (Int × Int)} {t : Tm} (hp : MayPut S M t) : NoLk (putS S M t) := by
  intro c hc
  rcases List.mem_append.1 hc with hc | hc
  · exact h c hc
  · obtain ⟨d, hd, he⟩ := fixTop_mem hc
    rw [he.2.2.2.2]
    exact (hp.ok.2.1 d hd).2
theorem NoLk.fresh {S : Sto} (h : NoLk S) : NoLk (freshS S) := by
  intro c hc
  rcases List.mem_append.1 hc with hc | hc
  · exact h c hc
  · simp only [List.mem_singleton] at hc
    rw [hc]
theorem NoLk.fol {S : Sto} (h : NoLk S) {x : Nat} (hx : x < S.cells.length) : Tms.fol S x = x := fol_root (List.getElem?_eq_getElem hx) (h _ (List.getElem_mem hx))
def ct0 : Sto := ⟨1000, [], []⟩
def ct1 (t : Tm) : Sto := putS ct0 [] t
def ct2 (t u : Tm) : Sto := putS (ct1 t) [] u
def ct3 (t u : Tm) : Sto := freshS (ct2 t u)
def ct4 (t u : Tm) : Sto := bindS (ct3 t u) (ct2 t u).cells.length 0
structure CutFacts (t u : Tm) : Prop where
  i0 : Inv ct0
  i1 : Inv (ct1 t)
  i2 : Inv (ct2 t u)
  i3 : Inv (ct3 t u)
  i4 : Inv (ct4 t u)
  m1 : MayPut ct0 [] t
  m2 : MayPut (ct1 t) [] u
  n1 : 0 < (ct1 t).cells.length
  n2 : (ct1 t).cells.length < (ct2 t u).cells.length
  n3 : ((ct2 t u).cells.length : Int) < (ct2 t u).room
  t1 : Tr (ct1 t) (backT ct0 t) 0
  t2 : Tr (ct2 t u) (backT ct0 t) 0
  be : bindE (ct3 t u) (ct2 t u).cells.length (0 : Nat) = 0
  bw : bindW (ct3 t u) (ct2 t u).cells.length (0 : Nat) = ct4 t u
  c4 : cutE (ct4 t u) (ct1 t).cells.length = 14
  s4 : cutS (ct4 t u) (ct1 t).cells.length = ct4 t u
  un : undoS (ct4 t u) 0 = ct3 t u
  c3 : cutE (ct3 t u) (ct1 t).cells.length = 0
  s3 : cutS (ct3 t u) (ct1 t).cells.length = ct1 t
mutual
theorem sameT_refl : ∀ t : Tm, sameT t t = true
  | .mk k n s a => by have := sameL_refl a; simp [sameT, this]
theorem sameL_refl : ∀ l : List Tm, sameL l l = true
  | [] => by simp [sameL]
  | t :: l => by have := sameT_refl t; have := sameL_refl l; simp [sameL, *]
end
end Go.Proofs.Ytoklbeogmcdgaaa.Tms
namespace Go.Proofs.Ytoklbeogmcdgaaa.Tms
open Go Go.RowKit Go.Proofs.Ytoklbeogmcdgaaa.Reg Go.Proofs.Ytoklbeogmcdgaaa.Rws Go.Proofs.Ytoklbeogmcdgaaa.Maps
set_option linter.unusedVariables false
set_option linter.unusedSimpArgs false

theorem bind_len {S : Sto} {v t : Nat} (hv : v < S.cells.length) : (bindS S v t).cells.length = S.cells.length := by rw [bindS_cells hv]; simp
theorem Tr.fol {S : Sto} {t : Tm} {x y : Nat} (h : Tr S t x) (e : fol S y = Tms.fol S x) : Tr S t y := by
  obtain ⟨k, n, s, a⟩ := t
  unfold Tr at h ⊢
  rw [e]
  exact h
/-! ### Undoing -/
theorem undoS_bind {S : Sto} {v t : Nat} (hv : v < S.cells.length) (hl : (S.cells[v]).lk = -1) {m : Nat} (hm : m ≤ S.bonds.length) : undoS (bindS S v t) m = undoS S m := by
  unfold undoS
  have hb : (bindS S v t).bonds.length = S.bonds.length + 1 := by simp [bindS]
  rw [hb, Int.toNat_natCast, show S.bonds.length + 1 - m = (S.bonds.length - m) + 1 by omega]
  show undoN _ (looseS (bindS S v t)) = _
  rw [loose_bind hv hl]
theorem undoS_self (S : Sto) : undoS S (S.bonds.length : Nat) = S := by
  unfold undoS
  rw [Int.toNat_natCast, Nat.sub_self]
  rfl
/-- bound since: the store T was S once, and some variables were bound -/
inductive Since (S : Sto) : Sto → Prop
  | refl : Since S S
  | step {T : Sto} (v t : Nat) (h : Since S T) (hv : v < T.cells.length) (hl : (T.cells[v]).lk = -1) : Since S (bindS T v t)
theorem Since.len {S T : Sto} (h : Since S T) : T.cells.length = S.cells.length ∧ S.bonds.length ≤ T.bonds.length := by
  induction h with
  | refl => exact ⟨rfl, Nat.le_refl _⟩
  | @step T v t h hv hl ih =>
    have e : (bindS T v t).bonds.length = T.bonds.length + 1 := by simp [bindS]
    exact ⟨(bind_len hv).trans ih.1, by omega⟩
theorem Since.undo {S T : Sto} (h : Since S T) : undoS T (S.bonds.length : Nat) = S := by
  induction h with
  | refl => exact undoS_self S
  | step v t h hv hl ih => rw [undoS_bind hv hl h.len.2]; exact ih
theorem Inv.bindW {S : Sto} (h : Inv S) (x y : Int) : Inv (Tms.bindW S x y) ∧ Since S (Tms.bindW S x y) := by
  unfold Tms.bindW
  by_cases hn : ¬ (0 ≤ x ∧ x < S.cells.length) ∨ ¬ (0 ≤ y ∧ y < S.cells.length)
  · rw [if_pos hn]; exact ⟨h, .refl⟩
  · rw [if_neg hn]
    have hx : x.toNat < S.cells.length := by omega
    have hy : y.toNat < S.cells.length := by omega
    by_cases hc : (cellF S x.toNat).k = 1 ∧ fol S x.toNat ≠ fol S y.toNat
    · rw [if_pos hc]
      have hk : (S.cells[fol S x.toNat]'(h.fol_lt hx)).k = 1 := by
        obtain ⟨f, -, g⟩ := h.stoIn.fol hx
        obtain ⟨h1, e⟩ := List.getElem?_eq_some_iff.1 g
        rw [e]; exact hc.1
      exact ⟨h.bind (h.fol_lt hx) (h.fol_lt hy) (h.fol_free hx) (h.fol_free hy) hk hc.2, .step _ _ .refl (h.fol_lt hx) (h.fol_free hx)⟩
    · rw [if_neg hc]; exact ⟨h, .refl⟩
theorem Since.trans {S T U : Sto} (h : Since S T) (h' : Since T U) : Since S U := by
  induction h' with
  | refl => exact h
  | step v t _ hv hl ih => exact .step v t ih hv hl
/-! ### New variables -/
structure ChainIs (S : Sto) (n m i : Nat) (T : Sto) : Prop where
  inv : Inv T
  since : Since S T
  len : T.cells.length = n + m
  bonds : T.bonds.length = i
  fol : ∀ x, x < n + m → Tms.fol T x = if n ≤ x ∧ x ≤ n + i then n + i else x
  old : ∀ x, x < n → T.cells[x]? = S.cells[x]?
  kind : ∀ j, j < m → ∃ c, T.cells[n + j]? = some c ∧ c.k = 1 ∧ c.args = []
theorem ChainIs.free {S T : Sto} {n m i : Nat} (h : ChainIs S n m i T) {x : Nat} (hx : x < n + m) (hn : x < n ∨ n + i ≤ x) : ∃ h' : x < T.cells.length, (T.cells[x]).lk = -1 := by
  have hx' : x < T.cells.length := by rw [h.len]; exact hx
  refine ⟨hx', ?_⟩
  have e : Tms.fol T x = x := by
    rw [h.fol x hx]
    split
    · omega
    · rfl
  have := h.inv.fol_free hx'
  simp only [e] at this
  exact this
theorem ChainIs.k1 {S T : Sto} {n m i j : Nat} (h : ChainIs S n m i T) (hj : j < m) (h' : n + j < T.cells.length) : (T.cells[n + j]).k = 1 := by
  obtain ⟨c, hc, hk, -⟩ := h.kind j hj
  obtain ⟨hq, e⟩ := List.getElem?_eq_some_iff.1 hc
  rw [e]; exact hk
/-- the chain's end is bound to a cell that was there -/
def chE (T : Sto) (n m : Nat) : Sto := bindS T (n + (m - 1)) 0
structure EndIs (S T : Sto) (n m : Nat) : Prop where
  be : bindE T (n : Nat) ((0 : Nat) : Int) = 0
  bw : bindW T (n : Nat) ((0 : Nat) : Int) = chE T n m
  inv : Inv (chE T n m)
  len : (chE T n m).cells.length = n + m
  fol : ∀ j, j < m → Tms.fol (chE T n m) (n + j) = 0
  fol0 : Tms.fol (chE T n m) 0 = 0
  old : ∀ x, x < n → (chE T n m).cells[x]? = S.cells[x]?
  undo : undoS (chE T n m) 0 = S
end Go.Proofs.Ytoklbeogmcdgaaa.Tms
namespace Go.Proofs.Ytoklbeogmcdgaaa.Tms
open Go Go.RowKit Go.Proofs.Ytoklbeogmcdgaaa.Reg Go.Proofs.Ytoklbeogmcdgaaa.Rws Go.Proofs.Ytoklbeogmcdgaaa.Maps
set_option linter.unusedVariables false
set_option linter.unusedSimpArgs false

def cntM (S : Sto) (M : List (Int × Int)) (t : Tm) : Bool × Nat × List (Int × Int) := cntT (fun n => mget M n) S.cells.length 0 [] t
/-- what Put answers: the cell, the error -/
def putA (S : Sto) (M : List (Int × Int)) (t : Tm) : Int × Int := if checkT t ≠ 0 then (0, checkT t) else if (cntM S M t).1 = false then (0, 2) else if S.room - S.cells.length < ((cntM S M t).2.1 : Int) then (0, 9) else ((putR S M t).1, 0)
/-- what Put leaves -/
def putW (S : Sto) (M : List (Int × Int)) (t : Tm) : Sto := if checkT t ≠ 0 then S else if (cntM S M t).1 = false then S else if S.room - S.cells.length < ((cntM S M t).2.1 : Int) then S else putS S M t
/-- the variables that it tells -/
def putN (S : Sto) (M : List (Int × Int)) (t : Tm) : List (Int × Int) := if checkT t ≠ 0 then [] else if (cntM S M t).1 = false then [] else if S.room - S.cells.length < ((cntM S M t).2.1 : Int) then [] else (putR S M t).2.2
theorem Inv.putW {S : Sto} (h : Inv S) (M : List (Int × Int)) (t : Tm) : Inv (Tms.putW S M t) ∧ (Tms.putW S M t).room = S.room := by
  unfold Tms.putW
  split
  · exact ⟨h, rfl⟩
  · split
    · exact ⟨h, rfl⟩
    · split
      · exact ⟨h, rfl⟩
      · rename_i h1 h2 h3
        have h2' : (cntM S M t).1 = true := by simpa using h2
        exact ⟨h.put ⟨by simpa using h1, h2', by unfold cntM at h3; omega⟩, rfl⟩
/-- what Put leaves in memory: the store, the told variables' map, all else -/
structure LawPut (w0 : World) (p : Nat) (D : Nat → Prop) (mb : Nat) (M : List (Int × Int)) (N : List (Int × Int)) (w : World) (S' : Sto) (D' : Nat → Prop) (F : List (Int × Int)) (w' : World) : Prop where
  law : Law8 w0 p S' D' w'
  perm : N.Perm F
  map : IMapB w' mb (M ++ F)
  free : ¬ D' mb
  size : w.heap.size ≤ w'.heap.size
  blk : ∀ b, Free D w b → b ≠ mb → Free D' w' b ∧ w'.heap[b]? = w.heap[b]?
section
variable {w0 w w' : World} {p mb : Nat} {S S' : Sto} {D D' : Nat → Prop} {M : List (Int × Int)}
theorem lawPut_same (h : Law8 w0 p S D w) (hm : IMapB w mb M) (hd : ¬ D mb) (hb : Below w.heap.size w w') : LawPut w0 p D mb M [] w S D [] w' := by
  obtain ⟨h1, h2, -⟩ := h.below hb
  exact ⟨h1, List.Perm.refl _, by rw [List.append_nil]; exact hm.below (hb.block _ hm.lt), hd, hb.size, fun b hb _ => h2.blk b hb⟩
theorem law_PutV (h : Law8 w0 p S D w) (hI : Inv S) (hm : IMapB w mb M) (hd : ¬ D mb) (h0 : w0.heap.size ≤ mb) {t : Tm} {v : Value} {P : Nat → Prop} (ht : IsTm w P v t) (hP : ∀ b, P b → ¬ D b) (hs : t.size ≤ 20000) :
    Calls Try.prog 17 #[.pointer (some ⟨p, 0, none⟩), v, .map (some mb)] w fun e w' => e = .returned (.tuple #[.int .i64 (putA S M t).1, .int .i64 (putA S M t).2]) ∧ ∃ D' F, LawPut w0 p D mb M (putN S M t) w (putW S M t) D' F w' := by
  have hd' : ∀ b, Value.map (some mb) = .map (some b) → ¬ D b := fun b e => by simp only [Value.map.injEq, Option.some.injEq] at e; subst e; exact hd
  have hv : VMap w (.map (some mb)) M := .inr ⟨mb, rfl, hm⟩
  have hsm := hI.small
  unfold putA putW putN
  by_cases h1 : checkT t ≠ 0
  · simp only [if_pos h1]
    refine (sto_Put_check w h.sto t v (some mb) P M (by omega) ht hv hd' h1).mono ?_
    rintro e w' ⟨rfl, hb⟩
    exact ⟨rfl, D, [], lawPut_same h hm hd hb⟩
  simp only [if_neg h1]
  have h1' : checkT t = 0 := by simpa using h1
  by_cases h2 : (cntM S M t).1 = false
  · simp only [if_pos h2]
    refine (sto_Put_arg w h.sto t v (some mb) P M (by omega) ht hv hd' h1' h2).mono ?_
    rintro e w' ⟨rfl, hb⟩
    exact ⟨rfl, D, [], lawPut_same h hm hd hb⟩
  simp only [if_neg h2]
  have h2' : (cntM S M t).1 = true := by simpa using h2
  by_cases h3 : S.room - S.cells.length < ((cntM S M t).2.1 : Int)
  · simp only [if_pos h3]
    refine (sto_Put_full w h.sto t v (some mb) P M (by omega) ht hv hd' (by omega) hI.room0 hI.room h1' h2' h3).mono ?_
    rintro e w' ⟨rfl, hb⟩
    exact ⟨rfl, D, [], lawPut_same h hm hd hb⟩
  simp only [if_neg h3]
  refine (sto_Put_ok w h.sto t v (some mb) P M (by omega) ht hv hd' hP (by omega) hI.room0 hI.room h1' h2' (by unfold cntM at h3; omega)).mono ?_
  intro e w' hp
  obtain ⟨he, D', hs', hk, hg, hF⟩ := hp
  obtain ⟨F, hperm, hmap⟩ := hF mb rfl
  have hlt := hm.lt
  have hnd : ∀ b, b < w.heap.size → ¬ D b → ¬ D' b := fun b hb hn e => by
    rcases hg b e with e | e
    · exact hn e
    · omega
  have hz := h.bel.size
  refine ⟨he, D', F, ⟨hs', fun b hb => ?_, ⟨hk.os.trans h.bel.os, hk.tape.trans h.bel.tape, hk.output.trans h.bel.output, Nat.le_trans hz hk.size, fun b hlt' => ?_⟩⟩, hperm, hmap, hnd mb hlt hd, hk.size, fun b hb hne => ⟨⟨hnd b hb.2 hb.1, Nat.lt_of_lt_of_le hb.2 hk.size⟩, ?_⟩⟩
  · rcases hg b hb with e | e
    · exact h.own b e
    · omega
  · refine (hk.block b (by omega) fun e => ?_).trans (h.bel.block b hlt')
    rcases e with e | e
    · have := h.own b e; omega
    · simp only [Option.some.injEq] at e; omega
  · refine hk.block b hb.2 fun e => ?_
    rcases e with e | e
    · exact hb.1 e
    · simp only [Option.some.injEq] at e; exact hne e.symm
/-- a slice of ints that isn't the store's -/
theorem IntSl.step {v : Value} {L : List Int} (h : IntSl w (Free D w) v L) (hs : Step D w D' w') : IntSl w' (Free D' w') v L := h.move (fun b hb _ => (hs.blk b hb).1) fun b hb _ => (hs.blk b hb).2
end
end Go.Proofs.Ytoklbeogmcdgaaa.Tms
