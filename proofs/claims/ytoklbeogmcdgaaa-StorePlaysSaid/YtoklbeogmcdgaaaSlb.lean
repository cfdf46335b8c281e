
/-
  Layer 8 as its laws see it: a store of the law's own; what each step leaves of it, and of all that isn't its.
  StoreCuts, plain: two terms are put, a variable is bound, undone, cut.
  StoreBinds and StoreUndoes, plain: what following is once more is bound; a chain of variables; undoing gives back what was.
  Layer 8 as its laws see it: Put and Fresh, whatever they answer; Look.
-/
import Derived.Test.YtoklbeogmcdgaaaPlt
import Derived.Test.YtoklbeogmcdgaaaAl8
import Derived.Test.YtoklbeogmcdgaaaStd
import Derived.Test.YtoklbeogmcdgaaaLow
namespace Go.Proofs.Ytoklbeogmcdgaaa.Tms
open Go Go.RowKit Go.Proofs.Ytoklbeogmcdgaaa.Reg Go.Proofs.Ytoklbeogmcdgaaa.Rws Go.Proofs.Ytoklbeogmcdgaaa.Maps
set_option linter.unusedVariables false
set_option linter.unusedSimpArgs false

/-- a block that isn't the store's -/
def Free (D : Nat → Prop) (w : World) (b : Nat) : Prop := ¬ D b ∧ b < w.heap.size
/-- what isn't the store's stays -/
structure Step (D : Nat → Prop) (w : World) (D' : Nat → Prop) (w' : World) : Prop where
  size : w.heap.size ≤ w'.heap.size
  blk : ∀ b, Free D w b → Free D' w' b ∧ w'.heap[b]? = w.heap[b]?
theorem Step.refl (D : Nat → Prop) (w : World) : Step D w D w := ⟨Nat.le_refl _, fun b h => ⟨h, rfl⟩⟩
theorem Step.trans {D D' D'' : Nat → Prop} {w w' w'' : World} (h : Step D w D' w') (h' : Step D' w' D'' w'') : Step D w D'' w'' := ⟨Nat.le_trans h.size h'.size, fun b hb => ⟨(h'.blk b (h.blk b hb).1).1, (h'.blk b (h.blk b hb).1).2.trans (h.blk b hb).2⟩⟩
structure Law8 (w0 : World) (p : Nat) (S : Sto) (D : Nat → Prop) (w : World) : Prop where
  sto : StoAt w D p S
  own : ∀ b, D b → w0.heap.size ≤ b
  bel : Below w0.heap.size w0 w
section
variable {w0 w w' : World} {p : Nat} {S S' : Sto} {D D' : Nat → Prop}
theorem Law8.dl (h : Law8 w0 p S D w) : ∀ b, D b → b < w.heap.size := h.sto.dl''
theorem Law8.keeps (h : Law8 w0 p S D w) {M : Nat → Prop} (hM : ∀ b, M b → D b ∨ w.heap.size ≤ b) (hk : Keeps w w' M) : Below w0.heap.size w0 w' :=
  ⟨hk.os.trans h.bel.os, hk.tape.trans h.bel.tape, hk.output.trans h.bel.output, Nat.le_trans h.bel.size hk.size, fun b hlt => by
    have := h.bel.size
    exact (hk.block b (by omega) fun e => by rcases hM b e with e | e; have := h.own b e; omega; omega).trans (h.bel.block b hlt)⟩
theorem Law8.did (h : Law8 w0 p S D w) (hd : StoDid w w' D p S') : ∃ D', Law8 w0 p S' D' w' ∧ Step D w D' w' := by
  obtain ⟨D', h1, h2, h3⟩ := hd
  have hs := h.bel.size
  refine ⟨D', ⟨h1, fun b hb => ?_, h.keeps (fun b hb => .inl hb) h2⟩, h2.size, fun b hb => ⟨⟨fun e => ?_, Nat.lt_of_lt_of_le hb.2 h2.size⟩, h2.block b hb.2 hb.1⟩⟩
  · rcases h3 b hb with e | e
    · exact h.own b e
    · omega
  · rcases h3 b e with e | e
    · exact hb.1 e
    · have := hb.2; omega
theorem Law8.kept (h : Law8 w0 p S D w) (h1 : StoAt w' D p S') (h2 : Keeps w w' D) : Law8 w0 p S' D w' ∧ Step D w D w' :=
  ⟨⟨h1, h.own, h.keeps (fun b hb => .inl hb) h2⟩, h2.size, fun b hb => ⟨⟨hb.1, Nat.lt_of_lt_of_le hb.2 h2.size⟩, h2.block b hb.2 hb.1⟩⟩
theorem Law8.below (h : Law8 w0 p S D w) (hb : Below w.heap.size w w') : Law8 w0 p S D w' ∧ Step D w D w' ∧ ∀ b, w.heap.size ≤ b → b < w'.heap.size → Free D w' b :=
  ⟨⟨h.sto.below hb, h.own, h.bel.trans (hb.mono h.bel.size)⟩, ⟨hb.size, fun b hf => ⟨⟨hf.1, Nat.lt_of_lt_of_le hf.2 hb.size⟩, hb.block b hf.2⟩⟩, fun b h1 h2 => ⟨fun e => by have := h.dl b e; omega, h2⟩⟩
theorem Law8.alloc (h : Law8 w0 p S D w) (o : Obj) : Law8 w0 p S D (w.alloc o) ∧ Step D w D (w.alloc o) ∧ Free D (w.alloc o) w.heap.size ∧ (w.alloc o).heap[w.heap.size]? = some o := by
  obtain ⟨h1, h2, h3⟩ := h.below (below_new w o)
  exact ⟨h1, h2, h3 _ (Nat.le_refl _) (by simp), heap_alloc_new w o⟩
theorem IsTm.step {v : Value} {t : Tm} (h : IsTm w (Free D w) v t) (hs : Step D w D' w') : IsTm w' (Free D' w') v t := h.imp (fun b hb => (hs.blk b hb).1) fun b hb _ => (hs.blk b hb).2
theorem IsSl.step {v : Value} {t : List Tm} (h : IsSl w (Free D w) v t) (hs : Step D w D' w') : IsSl w' (Free D' w') v t := h.imp (fun b hb => (hs.blk b hb).1) fun b hb _ => (hs.blk b hb).2
/-- a row that isn't the store's -/
def RowF (D : Nat → Prop) (w : World) (r : Nat) (o : Obj) : Prop := Free D w r ∧ w.heap[r]? = some o
theorem RowF.step {r : Nat} {o : Obj} (h : RowF D w r o) (hs : Step D w D' w') : RowF D' w' r o := ⟨(hs.blk r h.1).1, (hs.blk r h.1).2.trans h.2⟩
/-- a term that was made just now -/
theorem Law8.made (h : Law8 w0 p S D w) (hb : Below w.heap.size w w') {v : Value} {t : Tm} (hi : IsTm w' (fun b => w.heap.size ≤ b) v t) : IsTm w' (Free D w') v t :=
  hi.low.imp (fun b hb' => (h.below hb).2.2 b hb'.1 hb'.2) fun _ _ _ => rfl
/-! ### What each step leaves -/
def LawDid (w0 : World) (p : Nat) (D : Nat → Prop) (w : World) (S' : Sto) (w' : World) : Prop := ∃ D', Law8 w0 p S' D' w' ∧ Step D w D' w'
theorem law_New (w0 w : World) (hb : Below w0.heap.size w0 w) (n : Int) (h1 : 1 ≤ n) (h2 : n ≤ 16777216) :
    Calls Try.prog 16 #[.int .i64 n] w fun e w' => e = .returned (.tuple #[.pointer (some ⟨w.heap.size, 0, none⟩), .int .i64 0]) ∧ ∃ D', Law8 w0 w.heap.size ⟨n, [], []⟩ D' w' ∧ Below w.heap.size w w' := by
  refine (sto_New n w h1 h2).mono ?_
  rintro e w' ⟨rfl, hs, hb'⟩
  exact ⟨rfl, _, ⟨hs, fun b e => by rw [e]; exact hb.size, hb.trans (hb'.mono hb.size)⟩, hb'⟩
theorem law_Put (h : Law8 w0 p S D w) (hI : Inv S) {t : Tm} {v : Value} {P : Nat → Prop} (ht : IsTm w P v t) (hP : ∀ b, P b → ¬ D b) (hm : MayPut S [] t) (hs : t.size ≤ 2000) :
    Calls Try.prog 17 #[.pointer (some ⟨p, 0, none⟩), v, .map none] w fun e w' => e = .returned (.tuple #[.int .i64 (S.cells.length : Nat), .int .i64 0]) ∧ LawDid w0 p D w (putS S [] t) w' := by
  refine (sto_Put_ok w h.sto t v none P [] (by omega) ht (.inl ⟨rfl, rfl⟩) (fun b e => by cases e) hP (by have := hI.small; omega) hI.room0 hI.room hm.chk hm.cnt hm.fit).mono ?_
  intro e w' hp
  obtain ⟨rfl, hd⟩ := put_nil hp ⟨rfl, put_base' S t⟩
  exact ⟨rfl, h.did hd⟩
theorem law_Fresh (h : Law8 w0 p S D w) (hI : Inv S) (hr : (S.cells.length : Int) < S.room) :
    Calls Try.prog 21 #[.pointer (some ⟨p, 0, none⟩)] w fun e w' => e = .returned (.tuple #[.int .i64 S.cells.length, .int .i64 0]) ∧ LawDid w0 p D w (freshS S) w' := by
  refine (sto_Fresh w h.sto (by have := hI.small; omega) hr).mono ?_
  rintro e w' ⟨rfl, hd⟩
  exact ⟨rfl, h.did hd⟩
open Classical in
/-- what Bind answers -/
noncomputable def bindE (S : Sto) (x y : Int) : Int := if ¬ (0 ≤ x ∧ x < S.cells.length) ∨ ¬ (0 ≤ y ∧ y < S.cells.length) then 2 else if (cellF S x.toNat).k = 1 then 0 else 2
open Classical in
/-- what Bind leaves -/
noncomputable def bindW (S : Sto) (x y : Int) : Sto := if ¬ (0 ≤ x ∧ x < S.cells.length) ∨ ¬ (0 ≤ y ∧ y < S.cells.length) then S else if (cellF S x.toNat).k = 1 ∧ fol S x.toNat ≠ fol S y.toNat then bindS S (fol S x.toNat) (fol S y.toNat) else S
theorem law_Bind (h : Law8 w0 p S D w) (hI : Inv S) (x y : Int) :
    Calls Try.prog 22 #[.pointer (some ⟨p, 0, none⟩), .int .i64 x, .int .i64 y] w fun e w' => e = .returned (.int .i64 (bindE S x y)) ∧ LawDid w0 p D w (bindW S x y) w' := by
  by_cases hn : ¬ (0 ≤ x ∧ x < S.cells.length) ∨ ¬ (0 ≤ y ∧ y < S.cells.length)
  · refine (sto_Bind_no w h.sto x y hn).mono ?_
    rintro e w' ⟨rfl, rfl⟩
    exact ⟨by unfold bindE; rw [if_pos hn], by unfold bindW; rw [if_pos hn]; exact ⟨D, h, Step.refl _ _⟩⟩
  · obtain ⟨⟨h0, h1⟩, h2, h3⟩ : (0 ≤ x ∧ x < S.cells.length) ∧ (0 ≤ y ∧ y < S.cells.length) := by
      constructor
      · exact Classical.byContradiction fun e => hn (.inl e)
      · exact Classical.byContradiction fun e => hn (.inr e)
    obtain ⟨x, rfl⟩ : ∃ n : Nat, x = n := ⟨x.toNat, by omega⟩
    obtain ⟨y, rfl⟩ : ∃ n : Nat, y = n := ⟨y.toNat, by omega⟩
    have eb : bindE S x y = if (cellF S x).k = 1 then 0 else 2 := by unfold bindE; rw [if_neg hn]; rfl
    have ew : bindW S x y = if (cellF S x).k = 1 ∧ fol S x ≠ fol S y then bindS S (fol S x) (fol S y) else S := by unfold bindW; rw [if_neg hn]; rfl
    rw [eb, ew]
    obtain ⟨f1, c1, g1⟩ := hI.stoIn.fol (x := x) (by omega)
    obtain ⟨f2, c2, g2⟩ := hI.stoIn.fol (x := y) (by omega)
    have gk : (S.cells[fol S x]'(c1.end_.1)).k = (cellF S x).k := by
      obtain ⟨h, e⟩ := List.getElem?_eq_some_iff.1 g1
      rw [e]
    by_cases hc : (cellF S x).k = 1 ∧ fol S x ≠ fol S y
    · rw [if_pos hc, if_pos hc.1]
      refine (sto_Bind w h.sto hI.stoOk f1 f2 x y _ _ c1 c2 (gk.trans hc.1) hc.2).mono ?_
      rintro e w' ⟨rfl, hd⟩
      exact ⟨rfl, h.did hd⟩
    · rw [if_neg hc]
      refine (sto_Bind_id w h.sto f1 f2 x y _ _ c1 c2 fun e => Classical.byContradiction fun e2 => hc ⟨gk.symm.trans e, e2⟩).mono ?_
      rintro e w' ⟨rfl, rfl⟩
      exact ⟨by rw [gk], D, h, Step.refl _ _⟩
theorem law_Undo (h : Law8 w0 p S D w) (hI : Inv S) (m : Int) :
    Calls Try.prog 24 #[.pointer (some ⟨p, 0, none⟩), .int .i64 m] w fun e w' => e = .returned (.tuple #[]) ∧ LawDid w0 p D w (undoS S m) w' := by
  refine (sto_Undo w h.sto hI.bndOk m).mono ?_
  rintro e w' ⟨rfl, hs, hk⟩
  exact ⟨rfl, D, h.kept hs hk⟩
theorem law_Cut (h : Law8 w0 p S D w) (hI : Inv S) (n : Int) :
    Calls Try.prog 23 #[.pointer (some ⟨p, 0, none⟩), .int .i64 n] w fun e w' => e = .returned (.int .i64 (cutE S n)) ∧ LawDid w0 p D w (cutS S n) w' := by
  refine (sto_Cut w h.sto (by have := hI.small; omega) (by have := hI.small; have := hI.bsmall; omega) n).mono ?_
  rintro e w' ⟨rfl, hs, hk⟩
  exact ⟨rfl, D, h.kept hs hk⟩
theorem law_Get (h : Law8 w0 p S D w) (hI : Inv S) (x : Nat) {t : Tm} (ht : Tr S t x) (hs : t.size ≤ 2000) (hx : x < S.cells.length) :
    Calls Try.prog 20 #[.pointer (some ⟨p, 0, none⟩), .int .i64 x] w fun e w' => ∃ a c, e = .returned (.tuple #[aggT t a c, .int .i64 0]) ∧ Law8 w0 p S D w' ∧ Step D w D w' ∧ IsTm w' (Free D w') (aggT t a c) t := by
  refine (sto_Get_ok w hI.stoIn h.sto x hx t _ (get_of_tr ht hs)).mono ?_
  rintro e w' ⟨a, c, rfl, hi, hb⟩
  obtain ⟨h1, h2, h3⟩ := h.below hb
  exact ⟨a, c, rfl, h1, h2, h.made hb hi⟩
end
set_option maxRecDepth 100000 in
set_option maxHeartbeats 4000000 in
theorem sto_Get_no {S : Sto} {D : Nat → Prop} {p : Nat} (w : World) (hS : StoAt w D p S) (x : Int) (hx : ¬ (0 ≤ x ∧ x < S.cells.length)) :
    Calls Try.prog 20 #[.pointer (some ⟨p, 0, none⟩), .int .i64 x] w fun e w' => e = .returned (.tuple #[aggT zeroTm none 0, .int .i64 2]) ∧ Below w.heap.size w w' := by
  have hb0 := below_new w (.cells #[.int .i64 0, .int .i64 0, .string ⟨#[]⟩, .slice none 0 0] 33 (0, 0))
  have hn0 := heap_alloc_new w (.cells #[.int .i64 0, .int .i64 0, .string ⟨#[]⟩, .slice none 0 0] 33 (0, 0))
  have HS := Lib.hid (hS.below hb0)
  have HB := Lib.hid hb0
  have HN := Lib.hid hn0
  have HX := Lib.hid (dec_no hx)
  clear hb0 hn0 hx hS
  go_enter Try.func20, Try.ntmps20
  go_wp2_with fail
  refine (sto_there _ HS.out x).mono ?_
  rintro e1 w1 ⟨rfl, rfl⟩
  rw [HX.out]
  go_wp2_with (with_reducible show wpList _ _ _ (⟨none, .store _ (.tmp 4) _, _, _, _, _⟩ :: _) _ _
               refine wpList_store_row rfl 33 (.tmp 4) (.tmp 18) rfl w.heap.size #[.int .i64 0, .int .i64 0, .string ⟨#[]⟩, .slice none 0 0] rfl rfl _ _ HN.out size_term rfl (one4 _ _ _ _ _ _) ?_)
  have hz := setRow_heap _ w.heap.size _ #[.int .i64 0, .int .i64 0, .string ⟨#[]⟩, .slice none 0 0] _ _ HN.out
  exact bodyPost_ret (v := .tuple #[aggT zeroTm none 0, .int .i64 2]) (Push.results_cell_tmp Try.results20 _ _ w.heap.size _ _ _ _ _ rfl (by simp) hz Try.underlying33 rfl (by kernel_rfl)) rfl ⟨rfl, below_setRow HB.out (Nat.le_refl _) _⟩
theorem law_Get_no {w0 w : World} {p : Nat} {S : Sto} {D : Nat → Prop} (h : Law8 w0 p S D w) (x : Int) (hx : ¬ (0 ≤ x ∧ x < S.cells.length)) :
    Calls Try.prog 20 #[.pointer (some ⟨p, 0, none⟩), .int .i64 x] w fun e w' => e = .returned (.tuple #[aggT zeroTm none 0, .int .i64 2]) ∧ Law8 w0 p S D w' ∧ Step D w D w' := by
  refine (sto_Get_no w h.sto x hx).mono ?_
  rintro e w' ⟨rfl, hb⟩
  exact ⟨rfl, (h.below hb).1, (h.below hb).2.1⟩
end Go.Proofs.Ytoklbeogmcdgaaa.Tms
namespace Go.Proofs.Ytoklbeogmcdgaaa.Tms
open Go Go.RowKit Go.Proofs.Ytoklbeogmcdgaaa.Reg Go.Proofs.Ytoklbeogmcdgaaa.Rws Go.Proofs.Ytoklbeogmcdgaaa.Maps
set_option linter.unusedVariables false
set_option linter.unusedSimpArgs false

/-- no cell is bound -/
def NoLk (S : Sto) : Prop := ∀ c ∈ S.cells, c.lk = -1
theorem NoLk.put {S : Sto} (h : NoLk S) {M : List (Int × Int)} {t : Tm} (hp : MayPut S M t) : NoLk (putS S M t) := by
  intro c hc
  rcases List.mem_append.1 hc with hc | hc
  · exact h c hc
  · obtain ⟨d, hd, he⟩ := fixTop_mem hc
    rw [he.2.2.2.2]
    exact (hp.ok.2.1 d hd).2
theorem NoLk.fresh {S : Sto} (h : NoLk S) : NoLk (freshS S) := by
  intro c hc
  rcases List.mem_append.1 hc with hc | hc
  · exact h c hc
  · simp only [List.mem_singleton] at hc
    rw [hc]
theorem NoLk.fol {S : Sto} (h : NoLk S) {x : Nat} (hx : x < S.cells.length) : Tms.fol S x = x := fol_root (List.getElem?_eq_getElem hx) (h _ (List.getElem_mem hx))
def ct0 : Sto := ⟨1000, [], []⟩
def ct1 (t : Tm) : Sto := putS ct0 [] t
def ct2 (t u : Tm) : Sto := putS (ct1 t) [] u
def ct3 (t u : Tm) : Sto := freshS (ct2 t u)
def ct4 (t u : Tm) : Sto := bindS (ct3 t u) (ct2 t u).cells.length 0
structure CutFacts (t u : Tm) : Prop where
  i0 : Inv ct0
  i1 : Inv (ct1 t)
  i2 : Inv (ct2 t u)
  i3 : Inv (ct3 t u)
  i4 : Inv (ct4 t u)
  m1 : MayPut ct0 [] t
  m2 : MayPut (ct1 t) [] u
  n1 : 0 < (ct1 t).cells.length
  n2 : (ct1 t).cells.length < (ct2 t u).cells.length
  n3 : ((ct2 t u).cells.length : Int) < (ct2 t u).room
  t1 : Tr (ct1 t) (backT ct0 t) 0
  t2 : Tr (ct2 t u) (backT ct0 t) 0
  be : bindE (ct3 t u) (ct2 t u).cells.length (0 : Nat) = 0
  bw : bindW (ct3 t u) (ct2 t u).cells.length (0 : Nat) = ct4 t u
  c4 : cutE (ct4 t u) (ct1 t).cells.length = 14
  s4 : cutS (ct4 t u) (ct1 t).cells.length = ct4 t u
  un : undoS (ct4 t u) 0 = ct3 t u
  c3 : cutE (ct3 t u) (ct1 t).cells.length = 0
  s3 : cutS (ct3 t u) (ct1 t).cells.length = ct1 t
theorem cut_facts (t u : Tm) (ht : checkT t = 0) (hu : checkT u = 0) (hst : t.size ≤ 421) (hsu : u.size ≤ 421) : CutFacts t u := by
  have i0 : Inv ct0 := Inv.new 1000 (by decide) (by decide)
  have m1 : MayPut ct0 [] t := may_put0 ht (by show ((0 : Nat) : Int) + t.size ≤ 1000; omega)
  have i1 : Inv (ct1 t) := i0.put m1
  have l1 : (ct1 t).cells.length = (putR ct0 [] t).2.1.length := by rw [ct1, putS_len]; simp [ct0]
  have g1 : (ct1 t).cells.length ≤ t.size := by rw [l1]; exact putT_len _ _ _ _ _
  have n1 : 0 < (ct1 t).cells.length := by rw [l1]; exact put_some _ _
  have m2 : MayPut (ct1 t) [] u := may_put0 hu (by show ((ct1 t).cells.length : Int) + u.size ≤ 1000; omega)
  have i2 : Inv (ct2 t u) := i1.put m2
  have l2 : (ct2 t u).cells.length = (ct1 t).cells.length + (putR (ct1 t) [] u).2.1.length := putS_len _ _ _
  have g2 : (putR (ct1 t) [] u).2.1.length ≤ u.size := putT_len _ _ _ _ _
  have p2 : 0 < (putR (ct1 t) [] u).2.1.length := put_some _ _
  have n2 : (ct1 t).cells.length < (ct2 t u).cells.length := by omega
  have n3 : ((ct2 t u).cells.length : Int) < (ct2 t u).room := by show _ < (1000 : Int); omega
  have i3 : Inv (ct3 t u) := i2.fresh n3
  have k0 : NoLk ct0 := fun c hc => by simp [ct0] at hc
  have k1 : NoLk (ct1 t) := k0.put m1
  have k2 : NoLk (ct2 t u) := k1.put m2
  have k3 : NoLk (ct3 t u) := k2.fresh
  have l3 : (ct3 t u).cells.length = (ct2 t u).cells.length + 1 := by simp [ct3, freshS, addS]
  have hv : (ct2 t u).cells.length < (ct3 t u).cells.length := by omega
  have h0 : 0 < (ct3 t u).cells.length := by omega
  have gv : (ct3 t u).cells[(ct2 t u).cells.length]? = some ⟨1, 0, ⟨#[]⟩, [], -1, lastTop (ct2 t u).cells⟩ := by simp [ct3, freshS, addS]
  have kv : ((ct3 t u).cells[(ct2 t u).cells.length]'hv).k = 1 := by
    obtain ⟨h, e⟩ := List.getElem?_eq_some_iff.1 gv
    rw [e]
  have fv : fol (ct3 t u) (ct2 t u).cells.length = (ct2 t u).cells.length := k3.fol hv
  have f0 : fol (ct3 t u) 0 = 0 := k3.fol h0
  have cv : (cellF (ct3 t u) (ct2 t u).cells.length).k = 1 := by unfold cellF; rw [fv, gv]; rfl
  have i4 : Inv (ct4 t u) := i3.bind hv h0 (k3 _ (List.getElem_mem _)) (k3 _ (List.getElem_mem _)) kv (by omega)
  have hnb : ¬ (¬ ((0 : Int) ≤ ((ct2 t u).cells.length : Int) ∧ ((ct2 t u).cells.length : Int) < (ct3 t u).cells.length) ∨ ¬ ((0 : Int) ≤ ((0 : Nat) : Int) ∧ ((0 : Nat) : Int) < (ct3 t u).cells.length)) := by omega
  have tA : AgreeAt (ct1 t) ct0.cells.length (putR ct0 [] t).2.1 := agree_put ct0 t
  have t1 : Tr (ct1 t) (backT ct0 t) 0 := by
    have := put_tr0 (check_may ht) tA
    rwa [put_base'] at this
  have t2 : Tr (ct2 t u) (backT ct0 t) 0 := by
    have := put_tr0 (check_may ht) (AgreeAt.plus (m := fixTop (lastTop (ct1 t).cells) (putR (ct1 t) [] u).2.1) tA)
    rwa [put_base'] at this
  have l4 : (ct4 t u).cells.length = (ct3 t u).cells.length := by rw [ct4, bindS_cells hv]; simp
  have tk : (ct3 t u).cells.take (ct1 t).cells.length = (ct1 t).cells := by
    show (((ct1 t).cells ++ fixTop (lastTop (ct1 t).cells) (putR (ct1 t) [] u).2.1) ++ [_]).take (ct1 t).cells.length = _
    rw [List.append_assoc, List.take_left]
  have to1 : TopOk (ct1 t) := TopOk.put (fun c hc => by simp [ct0] at hc) m1
  have lt1 : lastTop (ct1 t).cells < (ct1 t).cells.length := lastTop_lt to1 (by omega)
  have c4 : cutE (ct4 t u) (ct1 t).cells.length = 14 := by
    have hb : lastB (ct4 t u).bonds = max ((ct2 t u).cells.length : Int) ((0 : Nat) : Int) := rfl
    unfold cutE
    rw [if_neg (by rw [l4]; omega), if_pos (by rw [hb]; omega)]
  have c3 : cutE (ct3 t u) (ct1 t).cells.length = 0 := by
    have hb : lastB (ct3 t u).bonds = -1 := rfl
    unfold cutE
    rw [if_neg (by omega), if_neg (by rw [hb]; omega), Int.toNat_natCast, tk, if_neg (by omega)]
  refine ⟨i0, i1, i2, i3, i4, m1, m2, n1, n2, n3, t1, t2, ?_, ?_, c4, ?_, ?_, c3, ?_⟩
  · unfold bindE
    rw [if_neg hnb, Int.toNat_natCast, if_pos cv]
  · unfold bindW
    rw [if_neg hnb, Int.toNat_natCast, Int.toNat_natCast, fv, f0, if_pos ⟨cv, by omega⟩]
    rfl
  · unfold cutS
    rw [if_neg (by rw [c4]; decide)]
  · show undoN 1 (ct4 t u) = _
    show looseS (bindS (ct3 t u) _ 0) = _
    exact loose_bind hv (k3 _ (List.getElem_mem _))
  · unfold cutS
    rw [if_pos c3, Int.toNat_natCast, tk]
    rfl
mutual
theorem sameT_refl : ∀ t : Tm, sameT t t = true
  | .mk k n s a => by have := sameL_refl a; simp [sameT, this]
theorem sameL_refl : ∀ l : List Tm, sameL l l = true
  | [] => by simp [sameL]
  | t :: l => by have := sameT_refl t; have := sameL_refl l; simp [sameL, *]
end
end Go.Proofs.Ytoklbeogmcdgaaa.Tms
namespace Go.Proofs.Ytoklbeogmcdgaaa.Tms
open Go Go.RowKit Go.Proofs.Ytoklbeogmcdgaaa.Reg Go.Proofs.Ytoklbeogmcdgaaa.Rws Go.Proofs.Ytoklbeogmcdgaaa.Maps
set_option linter.unusedVariables false
set_option linter.unusedSimpArgs false

theorem bind_get {S : Sto} {v t : Nat} (hv : v < S.cells.length) (x : Nat) : (bindS S v t).cells[x]? = if v = x then some { S.cells[v] with lk := (t : Int) } else S.cells[x]? := by
  rw [bindS_cells hv, List.getElem?_set]
  by_cases e : v = x
  · rw [if_pos e, if_pos e, if_pos hv]
  · rw [if_neg e, if_neg e]
theorem bind_len {S : Sto} {v t : Nat} (hv : v < S.cells.length) : (bindS S v t).cells.length = S.cells.length := by rw [bindS_cells hv]; simp
theorem bind_at {S : Sto} {v t x : Nat} (hv : v < S.cells.length) (hx : x < S.cells.length) (hne : x ≠ v) (h' : x < (bindS S v t).cells.length) : (bindS S v t).cells[x] = S.cells[x] := by
  have h := bind_get (t := t) hv x
  rw [if_neg (Ne.symm hne), List.getElem?_eq_getElem h', List.getElem?_eq_getElem hx] at h
  exact Option.some.inj h
theorem ch_bind {S : Sto} {v t : Nat} (hv : v < S.cells.length) (ht : t < S.cells.length) (hvl : (S.cells[v]).lk = -1) (htl : (S.cells[t]).lk = -1) (hne : v ≠ t) :
    ∀ (f x r : Nat), Ch S f x r → if r = v then Ch (bindS S v t) (f + 1) x t else Ch (bindS S v t) f x r
  | 0, x, r, ⟨hx, h1, e⟩ => by
    subst e
    have hl := bind_len (t := t) hv
    have hx' : r < (bindS S v t).cells.length := by omega
    have ht' : t < (bindS S v t).cells.length := by omega
    split
    · rename_i e
      subst e
      have h := bind_get (t := t) hv r
      rw [if_pos rfl, List.getElem?_eq_getElem hx'] at h
      exact ⟨hx', t, by rw [Option.some.inj h], ht', by rw [bind_at hv ht (Ne.symm hne) ht', htl]; decide, rfl⟩
    · rename_i e
      exact ⟨hx', by rw [bind_at hv hx e hx']; exact h1, rfl⟩
  | f + 1, x, r, ⟨hx, y, e, hc⟩ => by
    have hl := bind_len (t := t) hv
    have hx' : x < (bindS S v t).cells.length := by omega
    have hxv : x ≠ v := fun h => by subst h; rw [hvl] at e; omega
    have ih := ch_bind hv ht hvl htl hne f y r hc
    have e' : (bindS S v t).cells[x].lk = (y : Int) := by rw [bind_at hv hx hxv hx']; exact e
    split
    · rename_i h
      rw [if_pos h] at ih
      exact ⟨hx', y, e', ih⟩
    · rename_i h
      rw [if_neg h] at ih
      exact ⟨hx', y, e', ih⟩
theorem fol_bind {S : Sto} (hI : Inv S) {v t : Nat} (hv : v < S.cells.length) (ht : t < S.cells.length) (hvl : (S.cells[v]).lk = -1) (htl : (S.cells[t]).lk = -1) (hne : v ≠ t) {x : Nat} (hx : x < S.cells.length) :
    fol (bindS S v t) x = if fol S x = v then t else fol S x := by
  obtain ⟨f, hf⟩ := hI.folch hx
  have := ch_bind hv ht hvl htl hne f x _ hf
  split
  · rename_i h
    rw [if_pos h] at this
    exact fol_eq this
  · rename_i h
    rw [if_neg h] at this
    exact fol_eq this
theorem Tr.fol {S : Sto} {t : Tm} {x y : Nat} (h : Tr S t x) (e : fol S y = Tms.fol S x) : Tr S t y := by
  obtain ⟨k, n, s, a⟩ := t
  unfold Tr at h ⊢
  rw [e]
  exact h
/-! ### Undoing -/
theorem undoS_bind {S : Sto} {v t : Nat} (hv : v < S.cells.length) (hl : (S.cells[v]).lk = -1) {m : Nat} (hm : m ≤ S.bonds.length) : undoS (bindS S v t) m = undoS S m := by
  unfold undoS
  have hb : (bindS S v t).bonds.length = S.bonds.length + 1 := by simp [bindS]
  rw [hb, Int.toNat_natCast, show S.bonds.length + 1 - m = (S.bonds.length - m) + 1 by omega]
  show undoN _ (looseS (bindS S v t)) = _
  rw [loose_bind hv hl]
theorem undoS_self (S : Sto) : undoS S (S.bonds.length : Nat) = S := by
  unfold undoS
  rw [Int.toNat_natCast, Nat.sub_self]
  rfl
/-- bound since: the store T was S once, and some variables were bound -/
inductive Since (S : Sto) : Sto → Prop
  | refl : Since S S
  | step {T : Sto} (v t : Nat) (h : Since S T) (hv : v < T.cells.length) (hl : (T.cells[v]).lk = -1) : Since S (bindS T v t)
theorem Since.len {S T : Sto} (h : Since S T) : T.cells.length = S.cells.length ∧ S.bonds.length ≤ T.bonds.length := by
  induction h with
  | refl => exact ⟨rfl, Nat.le_refl _⟩
  | @step T v t h hv hl ih =>
    have e : (bindS T v t).bonds.length = T.bonds.length + 1 := by simp [bindS]
    exact ⟨(bind_len hv).trans ih.1, by omega⟩
theorem Since.undo {S T : Sto} (h : Since S T) : undoS T (S.bonds.length : Nat) = S := by
  induction h with
  | refl => exact undoS_self S
  | step v t h hv hl ih => rw [undoS_bind hv hl h.len.2]; exact ih
theorem Inv.bindW {S : Sto} (h : Inv S) (x y : Int) : Inv (Tms.bindW S x y) ∧ Since S (Tms.bindW S x y) := by
  unfold Tms.bindW
  by_cases hn : ¬ (0 ≤ x ∧ x < S.cells.length) ∨ ¬ (0 ≤ y ∧ y < S.cells.length)
  · rw [if_pos hn]; exact ⟨h, .refl⟩
  · rw [if_neg hn]
    have hx : x.toNat < S.cells.length := by omega
    have hy : y.toNat < S.cells.length := by omega
    by_cases hc : (cellF S x.toNat).k = 1 ∧ fol S x.toNat ≠ fol S y.toNat
    · rw [if_pos hc]
      have hk : (S.cells[fol S x.toNat]'(h.fol_lt hx)).k = 1 := by
        obtain ⟨f, -, g⟩ := h.stoIn.fol hx
        obtain ⟨h1, e⟩ := List.getElem?_eq_some_iff.1 g
        rw [e]; exact hc.1
      exact ⟨h.bind (h.fol_lt hx) (h.fol_lt hy) (h.fol_free hx) (h.fol_free hy) hk hc.2, .step _ _ .refl (h.fol_lt hx) (h.fol_free hx)⟩
    · rw [if_neg hc]; exact ⟨h, .refl⟩
theorem Since.trans {S T U : Sto} (h : Since S T) (h' : Since T U) : Since S U := by
  induction h' with
  | refl => exact h
  | step v t _ hv hl ih => exact .step v t ih hv hl
/-! ### New variables -/
def freshN : Nat → Sto → Sto
  | 0, S => S
  | k + 1, S => freshS (freshN k S)
theorem fresh_len (S : Sto) : (freshS S).cells.length = S.cells.length + 1 := by simp [freshS, addS]
theorem freshN_facts {S : Sto} (hI : Inv S) (hN : NoLk S) : ∀ k : Nat, (S.cells.length : Int) + k ≤ S.room → Inv (freshN k S) ∧ NoLk (freshN k S) ∧ (freshN k S).cells.length = S.cells.length + k ∧ (freshN k S).room = S.room ∧ (freshN k S).bonds = S.bonds ∧
    (∀ x, x < S.cells.length → (freshN k S).cells[x]? = S.cells[x]?) ∧ ∀ j, j < k → ∃ c, (freshN k S).cells[S.cells.length + j]? = some c ∧ c.k = 1 ∧ c.n = 0 ∧ c.s = ⟨#[]⟩ ∧ c.args = []
  | 0, h => ⟨hI, hN, rfl, rfl, rfl, fun _ _ => rfl, fun j hj => by omega⟩
  | k + 1, h => by
    obtain ⟨h1, h2, h3, h4, h5, h6, h7⟩ := freshN_facts hI hN k (by omega)
    have get : ∀ x, (freshN (k + 1) S).cells[x]? = if x < (freshN k S).cells.length then (freshN k S).cells[x]? else if x = (freshN k S).cells.length then some ⟨1, 0, ⟨#[]⟩, [], -1, lastTop (freshN k S).cells⟩ else none := fun x => by
      show ((freshN k S).cells ++ [_])[x]? = _
      by_cases hx : x < (freshN k S).cells.length
      · rw [if_pos hx, List.getElem?_append_left hx]
      · rw [if_neg hx, List.getElem?_append_right (by omega)]
        by_cases e : x = (freshN k S).cells.length
        · rw [if_pos e, e, Nat.sub_self]; rfl
        · rw [if_neg e, List.getElem?_eq_none]; simp; omega
    refine ⟨h1.fresh (by rw [h3, h4]; omega), h2.fresh, ?_, h4, h5, fun x hx => ?_, fun j hj => ?_⟩
    · show (freshS (freshN k S)).cells.length = _
      rw [fresh_len, h3]; omega
    · rw [get, if_pos (by omega)]; exact h6 x hx
    · rw [get]
      by_cases e : j < k
      · rw [if_pos (by omega)]; exact h7 j e
      · rw [if_neg (by omega), if_pos (by omega)]
        exact ⟨_, rfl, rfl, rfl, rfl, rfl⟩
/-- the chain: so many of the new variables are bound, each to the next -/
def chB (S : Sto) (n : Nat) : Nat → Sto
  | 0 => S
  | i + 1 => bindS (chB S n i) (n + i) (n + i + 1)
structure ChainIs (S : Sto) (n m i : Nat) (T : Sto) : Prop where
  inv : Inv T
  since : Since S T
  len : T.cells.length = n + m
  bonds : T.bonds.length = i
  fol : ∀ x, x < n + m → Tms.fol T x = if n ≤ x ∧ x ≤ n + i then n + i else x
  old : ∀ x, x < n → T.cells[x]? = S.cells[x]?
  kind : ∀ j, j < m → ∃ c, T.cells[n + j]? = some c ∧ c.k = 1 ∧ c.args = []
theorem ChainIs.free {S T : Sto} {n m i : Nat} (h : ChainIs S n m i T) {x : Nat} (hx : x < n + m) (hn : x < n ∨ n + i ≤ x) : ∃ h' : x < T.cells.length, (T.cells[x]).lk = -1 := by
  have hx' : x < T.cells.length := by rw [h.len]; exact hx
  refine ⟨hx', ?_⟩
  have e : Tms.fol T x = x := by
    rw [h.fol x hx]
    split
    · omega
    · rfl
  have := h.inv.fol_free hx'
  simp only [e] at this
  exact this
theorem ChainIs.k1 {S T : Sto} {n m i j : Nat} (h : ChainIs S n m i T) (hj : j < m) (h' : n + j < T.cells.length) : (T.cells[n + j]).k = 1 := by
  obtain ⟨c, hc, hk, -⟩ := h.kind j hj
  obtain ⟨hq, e⟩ := List.getElem?_eq_some_iff.1 hc
  rw [e]; exact hk
theorem chB_is {S : Sto} {n m : Nat} (hI : Inv S) (hN : NoLk S) (hl : S.cells.length = n + m) (hb : S.bonds = []) (hk : ∀ j, j < m → ∃ c, S.cells[n + j]? = some c ∧ c.k = 1 ∧ c.args = []) : ∀ i : Nat, i < m → ChainIs S n m i (chB S n i)
  | 0, hi => ⟨hI, .refl, hl, by show S.bonds.length = 0; rw [hb]; rfl, fun x hx => by
      show Tms.fol S x = _
      rw [hN.fol (by omega)]
      split
      · omega
      · rfl, fun _ _ => rfl, hk⟩
  | i + 1, hi => by
    have h := chB_is hI hN hl hb hk i (by omega)
    obtain ⟨hv, hvl⟩ := h.free (x := n + i) (by omega) (.inr (by omega))
    obtain ⟨ht, htl⟩ := h.free (x := n + i + 1) (by omega) (.inr (by omega))
    have hne : n + i ≠ n + i + 1 := by omega
    refine ⟨h.inv.bind hv ht hvl htl (h.k1 (by omega) hv) hne, .step _ _ h.since hv hvl, ?_, ?_, fun x hx => ?_, fun x hx => ?_, fun j hj => ?_⟩
    · exact (bind_len hv).trans h.len
    · show ((chB S n i).bonds ++ [_]).length = i + 1
      simp [h.bonds]
    · show Tms.fol (bindS (chB S n i) (n + i) (n + i + 1)) x = _
      rw [fol_bind h.inv hv ht hvl htl hne (by rw [h.len]; exact hx), h.fol x hx]
      by_cases e : n ≤ x ∧ x ≤ n + i
      · rw [if_pos e, if_pos rfl, if_pos (by omega)]; omega
      · rw [if_neg e]
        by_cases e2 : x = n + i + 1
        · rw [if_neg (by omega), if_pos (by omega), e2]; omega
        · rw [if_neg (by omega), if_neg (by omega)]
    · show (bindS (chB S n i) (n + i) (n + i + 1)).cells[x]? = _
      rw [bind_get hv, if_neg (by omega)]
      exact h.old x hx
    · show ∃ c, (bindS (chB S n i) (n + i) (n + i + 1)).cells[n + j]? = some c ∧ _
      rw [bind_get hv]
      by_cases e : n + i = n + j
      · rw [if_pos e]
        have : i = j := by omega
        subst this
        obtain ⟨c, hc, h1, h2⟩ := h.kind i hj
        obtain ⟨hq, e2⟩ := List.getElem?_eq_some_iff.1 hc
        exact ⟨_, rfl, by show ((chB S n i).cells[n + i]).k = 1; rw [e2]; exact h1, by show ((chB S n i).cells[n + i]).args = []; rw [e2]; exact h2⟩
      · rw [if_neg e]
        exact h.kind j hj
/-- one more of the chain's variables is bound -/
theorem chain_bind {S T : Sto} {n m i : Nat} (h : ChainIs S n m i T) (hi : i + 1 < m) : bindE T ((n + i : Nat) : Int) ((n + i + 1 : Nat) : Int) = 0 ∧ bindW T ((n + i : Nat) : Int) ((n + i + 1 : Nat) : Int) = bindS T (n + i) (n + i + 1) := by
  have hl := h.len
  have f1 : fol T (n + i) = n + i := by rw [h.fol _ (by omega), if_pos (by omega)]
  have f2 : fol T (n + i + 1) = n + i + 1 := by rw [h.fol _ (by omega), if_neg (by omega)]
  obtain ⟨c, hc, hk, -⟩ := h.kind i (by omega)
  have hck : (cellF T (n + i)).k = 1 := by unfold cellF; rw [f1, hc]; exact hk
  have hn : ¬ (¬ ((0 : Int) ≤ ((n + i : Nat) : Int) ∧ ((n + i : Nat) : Int) < T.cells.length) ∨ ¬ ((0 : Int) ≤ ((n + i + 1 : Nat) : Int) ∧ ((n + i + 1 : Nat) : Int) < T.cells.length)) := by omega
  constructor
  · unfold bindE
    rw [if_neg hn, Int.toNat_natCast, if_pos hck]
  · unfold bindW
    rw [if_neg hn, Int.toNat_natCast, Int.toNat_natCast, f1, f2, if_pos ⟨hck, by omega⟩]
/-- the chain's end is bound to a cell that was there -/
def chE (T : Sto) (n m : Nat) : Sto := bindS T (n + (m - 1)) 0
structure EndIs (S T : Sto) (n m : Nat) : Prop where
  be : bindE T (n : Nat) ((0 : Nat) : Int) = 0
  bw : bindW T (n : Nat) ((0 : Nat) : Int) = chE T n m
  inv : Inv (chE T n m)
  len : (chE T n m).cells.length = n + m
  fol : ∀ j, j < m → Tms.fol (chE T n m) (n + j) = 0
  fol0 : Tms.fol (chE T n m) 0 = 0
  old : ∀ x, x < n → (chE T n m).cells[x]? = S.cells[x]?
  undo : undoS (chE T n m) 0 = S
theorem end_is {S T : Sto} {n m : Nat} (hn : 0 < n) (hm : 0 < m) (hb : S.bonds = []) (h : ChainIs S n m (m - 1) T) : EndIs S T n m := by
  have hl := h.len
  obtain ⟨hv, hvl⟩ := h.free (x := n + (m - 1)) (by omega) (.inr (by omega))
  obtain ⟨ht, htl⟩ := h.free (x := 0) (by omega) (.inl hn)
  have f1 : fol T n = n + (m - 1) := by rw [h.fol _ (by omega), if_pos (by omega)]
  have f2 : fol T 0 = 0 := by rw [h.fol _ (by omega), if_neg (by omega)]
  obtain ⟨c, hc, hk, -⟩ := h.kind (m - 1) (by omega)
  have hck : (cellF T n).k = 1 := by unfold cellF; rw [f1, hc]; exact hk
  have hnb : ¬ (¬ ((0 : Int) ≤ ((n : Nat) : Int) ∧ ((n : Nat) : Int) < T.cells.length) ∨ ¬ ((0 : Int) ≤ ((0 : Nat) : Int) ∧ ((0 : Nat) : Int) < T.cells.length)) := by omega
  have hne : n + (m - 1) ≠ 0 := by omega
  refine ⟨?_, ?_, h.inv.bind hv ht hvl htl (h.k1 (by omega) hv) hne, (bind_len hv).trans hl, fun j hj => ?_, ?_, fun x hx => ?_, ?_⟩
  · unfold bindE
    rw [if_neg hnb, Int.toNat_natCast, if_pos hck]
  · unfold bindW
    rw [if_neg hnb, Int.toNat_natCast, Int.toNat_natCast, f1, f2, if_pos ⟨hck, by omega⟩]
    rfl
  · unfold chE
    rw [fol_bind h.inv hv ht hvl htl hne (by omega), h.fol _ (by omega), if_pos (show n ≤ n + j ∧ n + j ≤ n + (m - 1) by omega), if_pos rfl]
  · unfold chE
    rw [fol_bind h.inv hv ht hvl htl hne (by omega), f2, if_neg (by omega)]
  · unfold chE
    rw [bind_get hv, if_neg (by omega)]
    exact h.old x hx
  · have hs : Since S (chE T n m) := .step _ _ h.since hv hvl
    have := hs.undo
    rw [hb] at this
    exact this
end Go.Proofs.Ytoklbeogmcdgaaa.Tms
namespace Go.Proofs.Ytoklbeogmcdgaaa.Tms
open Go Go.RowKit Go.Proofs.Ytoklbeogmcdgaaa.Reg Go.Proofs.Ytoklbeogmcdgaaa.Rws Go.Proofs.Ytoklbeogmcdgaaa.Maps
set_option linter.unusedVariables false
set_option linter.unusedSimpArgs false

def cntM (S : Sto) (M : List (Int × Int)) (t : Tm) : Bool × Nat × List (Int × Int) := cntT (fun n => mget M n) S.cells.length 0 [] t
/-- what Put answers: the cell, the error -/
def putA (S : Sto) (M : List (Int × Int)) (t : Tm) : Int × Int := if checkT t ≠ 0 then (0, checkT t) else if (cntM S M t).1 = false then (0, 2) else if S.room - S.cells.length < ((cntM S M t).2.1 : Int) then (0, 9) else ((putR S M t).1, 0)
/-- what Put leaves -/
def putW (S : Sto) (M : List (Int × Int)) (t : Tm) : Sto := if checkT t ≠ 0 then S else if (cntM S M t).1 = false then S else if S.room - S.cells.length < ((cntM S M t).2.1 : Int) then S else putS S M t
/-- the variables that it tells -/
def putN (S : Sto) (M : List (Int × Int)) (t : Tm) : List (Int × Int) := if checkT t ≠ 0 then [] else if (cntM S M t).1 = false then [] else if S.room - S.cells.length < ((cntM S M t).2.1 : Int) then [] else (putR S M t).2.2
theorem Inv.putW {S : Sto} (h : Inv S) (M : List (Int × Int)) (t : Tm) : Inv (Tms.putW S M t) ∧ (Tms.putW S M t).room = S.room := by
  unfold Tms.putW
  split
  · exact ⟨h, rfl⟩
  · split
    · exact ⟨h, rfl⟩
    · split
      · exact ⟨h, rfl⟩
      · rename_i h1 h2 h3
        have h2' : (cntM S M t).1 = true := by simpa using h2
        exact ⟨h.put ⟨by simpa using h1, h2', by unfold cntM at h3; omega⟩, rfl⟩
/-- what Put leaves in memory: the store, the told variables' map, all else -/
structure LawPut (w0 : World) (p : Nat) (D : Nat → Prop) (mb : Nat) (M : List (Int × Int)) (N : List (Int × Int)) (w : World) (S' : Sto) (D' : Nat → Prop) (F : List (Int × Int)) (w' : World) : Prop where
  law : Law8 w0 p S' D' w'
  perm : N.Perm F
  map : IMapB w' mb (M ++ F)
  free : ¬ D' mb
  size : w.heap.size ≤ w'.heap.size
  blk : ∀ b, Free D w b → b ≠ mb → Free D' w' b ∧ w'.heap[b]? = w.heap[b]?
section
variable {w0 w w' : World} {p mb : Nat} {S S' : Sto} {D D' : Nat → Prop} {M : List (Int × Int)}
theorem lawPut_same (h : Law8 w0 p S D w) (hm : IMapB w mb M) (hd : ¬ D mb) (hb : Below w.heap.size w w') : LawPut w0 p D mb M [] w S D [] w' := by
  obtain ⟨h1, h2, -⟩ := h.below hb
  exact ⟨h1, List.Perm.refl _, by rw [List.append_nil]; exact hm.below (hb.block _ hm.lt), hd, hb.size, fun b hb _ => h2.blk b hb⟩
theorem law_PutV (h : Law8 w0 p S D w) (hI : Inv S) (hm : IMapB w mb M) (hd : ¬ D mb) (h0 : w0.heap.size ≤ mb) {t : Tm} {v : Value} {P : Nat → Prop} (ht : IsTm w P v t) (hP : ∀ b, P b → ¬ D b) (hs : t.size ≤ 20000) :
    Calls Try.prog 17 #[.pointer (some ⟨p, 0, none⟩), v, .map (some mb)] w fun e w' => e = .returned (.tuple #[.int .i64 (putA S M t).1, .int .i64 (putA S M t).2]) ∧ ∃ D' F, LawPut w0 p D mb M (putN S M t) w (putW S M t) D' F w' := by
  have hd' : ∀ b, Value.map (some mb) = .map (some b) → ¬ D b := fun b e => by simp only [Value.map.injEq, Option.some.injEq] at e; subst e; exact hd
  have hv : VMap w (.map (some mb)) M := .inr ⟨mb, rfl, hm⟩
  have hsm := hI.small
  unfold putA putW putN
  by_cases h1 : checkT t ≠ 0
  · simp only [if_pos h1]
    refine (sto_Put_check w h.sto t v (some mb) P M (by omega) ht hv hd' h1).mono ?_
    rintro e w' ⟨rfl, hb⟩
    exact ⟨rfl, D, [], lawPut_same h hm hd hb⟩
  simp only [if_neg h1]
  have h1' : checkT t = 0 := by simpa using h1
  by_cases h2 : (cntM S M t).1 = false
  · simp only [if_pos h2]
    refine (sto_Put_arg w h.sto t v (some mb) P M (by omega) ht hv hd' h1' h2).mono ?_
    rintro e w' ⟨rfl, hb⟩
    exact ⟨rfl, D, [], lawPut_same h hm hd hb⟩
  simp only [if_neg h2]
  have h2' : (cntM S M t).1 = true := by simpa using h2
  by_cases h3 : S.room - S.cells.length < ((cntM S M t).2.1 : Int)
  · simp only [if_pos h3]
    refine (sto_Put_full w h.sto t v (some mb) P M (by omega) ht hv hd' (by omega) hI.room0 hI.room h1' h2' h3).mono ?_
    rintro e w' ⟨rfl, hb⟩
    exact ⟨rfl, D, [], lawPut_same h hm hd hb⟩
  simp only [if_neg h3]
  refine (sto_Put_ok w h.sto t v (some mb) P M (by omega) ht hv hd' hP (by omega) hI.room0 hI.room h1' h2' (by unfold cntM at h3; omega)).mono ?_
  intro e w' hp
  obtain ⟨he, D', hs', hk, hg, hF⟩ := hp
  obtain ⟨F, hperm, hmap⟩ := hF mb rfl
  have hlt := hm.lt
  have hnd : ∀ b, b < w.heap.size → ¬ D b → ¬ D' b := fun b hb hn e => by
    rcases hg b e with e | e
    · exact hn e
    · omega
  have hz := h.bel.size
  refine ⟨he, D', F, ⟨hs', fun b hb => ?_, ⟨hk.os.trans h.bel.os, hk.tape.trans h.bel.tape, hk.output.trans h.bel.output, Nat.le_trans hz hk.size, fun b hlt' => ?_⟩⟩, hperm, hmap, hnd mb hlt hd, hk.size, fun b hb hne => ⟨⟨hnd b hb.2 hb.1, Nat.lt_of_lt_of_le hb.2 hk.size⟩, ?_⟩⟩
  · rcases hg b hb with e | e
    · exact h.own b e
    · omega
  · refine (hk.block b (by omega) fun e => ?_).trans (h.bel.block b hlt')
    rcases e with e | e
    · have := h.own b e; omega
    · simp only [Option.some.injEq] at e; omega
  · refine hk.block b hb.2 fun e => ?_
    rcases e with e | e
    · exact hb.1 e
    · simp only [Option.some.injEq] at e; exact hne e.symm
def freshA (S : Sto) : Int × Int := if (S.cells.length : Int) < S.room then ((S.cells.length : Int), 0) else (0, 9)
def freshW (S : Sto) : Sto := if (S.cells.length : Int) < S.room then freshS S else S
theorem Inv.freshW {S : Sto} (h : Inv S) : Inv (Tms.freshW S) ∧ (Tms.freshW S).room = S.room := by
  unfold Tms.freshW
  split
  · rename_i h1; exact ⟨h.fresh h1, rfl⟩
  · exact ⟨h, rfl⟩
theorem law_FreshE (h : Law8 w0 p S D w) (hI : Inv S) :
    Calls Try.prog 21 #[.pointer (some ⟨p, 0, none⟩)] w fun e w' => e = .returned (.tuple #[.int .i64 (freshA S).1, .int .i64 (freshA S).2]) ∧ LawDid w0 p D w (freshW S) w' := by
  unfold freshA freshW
  by_cases hr : (S.cells.length : Int) < S.room
  · simp only [if_pos hr]
    exact law_Fresh h hI hr
  · simp only [if_neg hr]
    refine (sto_Fresh_full w h.sto (by have := hI.small; omega) (by omega)).mono ?_
    rintro e w' ⟨rfl, hb⟩
    exact ⟨rfl, D, (h.below hb).1, (h.below hb).2.1⟩
/-- a slice of ints that isn't the store's -/
theorem IntSl.step {v : Value} {L : List Int} (h : IntSl w (Free D w) v L) (hs : Step D w D' w') : IntSl w' (Free D' w') v L := h.move (fun b hb _ => (hs.blk b hb).1) fun b hb _ => (hs.blk b hb).2
theorem law_Look (h : Law8 w0 p S D w) (hI : Inv S) (x : Nat) (hx : x < S.cells.length) :
    Calls Try.prog 28 #[.pointer (some ⟨p, 0, none⟩), .int .i64 x] w fun e w' => ∃ v, e = .returned (.tuple #[aggS (shellC (fol S x) (cellF S x)), v]) ∧ Law8 w0 p S D w' ∧ Step D w D w' ∧ IntSl w' (Free D w') v (cellF S x).args := by
  obtain ⟨f, hc, hg⟩ := hI.stoIn.fol hx
  refine (sto_Look w h.sto f x _ _ hc hg (by have := hI.small; omega) (by have := (hI.cell _ _ hg).len; omega)).mono ?_
  rintro e w' ⟨v, rfl, hv, hb⟩
  obtain ⟨h1, h2, h3⟩ := h.below hb
  exact ⟨v, rfl, h1, h2, hv.low.move (fun b hb _ => h3 b hb.1 hb.2) fun _ _ _ => rfl⟩
theorem bindW_room (S : Sto) (x y : Int) : (bindW S x y).room = S.room := by
  unfold bindW
  split
  · rfl
  · split <;> rfl
end
end Go.Proofs.Ytoklbeogmcdgaaa.Tms
