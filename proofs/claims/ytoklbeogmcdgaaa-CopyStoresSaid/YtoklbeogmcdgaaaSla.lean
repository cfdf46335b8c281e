
/-
  Layer 8 as its laws see it: a store of the law's own; what each step leaves of it, and of all that isn't its.
  StoreCuts, plain: two terms are put, a variable is bound, undone, cut.
-/
import Derived.Test.YtoklbeogmcdgaaaPlt
import Derived.Test.YtoklbeogmcdgaaaAl8
import Derived.Test.YtoklbeogmcdgaaaStd
import Derived.Test.YtoklbeogmcdgaaaLow
namespace Go.Proofs.Ytoklbeogmcdgaaa.Tms
open Go Go.RowKit Go.Proofs.Ytoklbeogmcdgaaa.Reg Go.Proofs.Ytoklbeogmcdgaaa.Rws Go.Proofs.Ytoklbeogmcdgaaa.Maps
set_option linter.unusedVariables false
set_option linter.unusedSimpArgs false

/-- a block that isn't the store's -/
def Free (D : Nat → Prop) (w : World) (b : Nat) : Prop := ¬ D b ∧ b < w.heap.size
/-- what isn't the store's stays -/
structure Step (D : Nat → Prop) (w : World) (D' : Nat → Prop) (w' : World) : Prop where
  size : w.heap.size ≤ w'.heap.size
  blk : ∀ b, Free D w b → Free D' w' b ∧ w'.heap[b]? = w.heap[b]?
theorem Step.refl (D : Nat → Prop) (w : World) : Step D w D w := ⟨Nat.le_refl _, fun b h => ⟨h, rfl⟩⟩
theorem Step.trans {D D' D'' : Nat → Prop} {w w' w'' : World} (h : Step D w D' w') (h' : Step D' w' D'' w'') : Step D w D'' w'' := ⟨Nat.le_trans h.size h'.size, fun b hb => ⟨(h'.blk b (h.blk b hb).1).1, (h'.blk b (h.blk b hb).1).2.trans (h.blk b hb).2⟩⟩
structure Law8 (w0 : World) (p : Nat) (S : Sto) (D : Nat → Prop) (w : World) : Prop where
  sto : StoAt w D p S
  own : ∀ b, D b → w0.heap.size ≤ b
  bel : Below w0.heap.size w0 w
section
variable {w0 w w' : World} {p : Nat} {S S' : Sto} {D D' : Nat → Prop}
theorem Law8.dl (h : Law8 w0 p S D w) : ∀ b, D b → b < w.heap.size := h.sto.dl''
theorem Law8.keeps (h : Law8 w0 p S D w) {M : Nat → Prop} (hM : ∀ b, M b → D b ∨ w.heap.size ≤ b) (hk : Keeps w w' M) : Below w0.heap.size w0 w' :=
  ⟨hk.os.trans h.bel.os, hk.tape.trans h.bel.tape, hk.output.trans h.bel.output, Nat.le_trans h.bel.size hk.size, fun b hlt => by
    have := h.bel.size
    exact (hk.block b (by omega) fun e => by rcases hM b e with e | e; have := h.own b e; omega; omega).trans (h.bel.block b hlt)⟩
theorem Law8.did (h : Law8 w0 p S D w) (hd : StoDid w w' D p S') : ∃ D', Law8 w0 p S' D' w' ∧ Step D w D' w' := by
  obtain ⟨D', h1, h2, h3⟩ := hd
  have hs := h.bel.size
  refine ⟨D', ⟨h1, fun b hb => ?_, h.keeps (fun b hb => .inl hb) h2⟩, h2.size, fun b hb => ⟨⟨fun e => ?_, Nat.lt_of_lt_of_le hb.2 h2.size⟩, h2.block b hb.2 hb.1⟩⟩
  · rcases h3 b hb with e | e
    · exact h.own b e
    · omega
  · rcases h3 b e with e | e
    · exact hb.1 e
    · have := hb.2; omega
theorem Law8.kept (h : Law8 w0 p S D w) (h1 : StoAt w' D p S') (h2 : Keeps w w' D) : Law8 w0 p S' D w' ∧ Step D w D w' :=
  ⟨⟨h1, h.own, h.keeps (fun b hb => .inl hb) h2⟩, h2.size, fun b hb => ⟨⟨hb.1, Nat.lt_of_lt_of_le hb.2 h2.size⟩, h2.block b hb.2 hb.1⟩⟩
theorem Law8.below (h : Law8 w0 p S D w) (hb : Below w.heap.size w w') : Law8 w0 p S D w' ∧ Step D w D w' ∧ ∀ b, w.heap.size ≤ b → b < w'.heap.size → Free D w' b :=
  ⟨⟨h.sto.below hb, h.own, h.bel.trans (hb.mono h.bel.size)⟩, ⟨hb.size, fun b hf => ⟨⟨hf.1, Nat.lt_of_lt_of_le hf.2 hb.size⟩, hb.block b hf.2⟩⟩, fun b h1 h2 => ⟨fun e => by have := h.dl b e; omega, h2⟩⟩
theorem Law8.alloc (h : Law8 w0 p S D w) (o : Obj) : Law8 w0 p S D (w.alloc o) ∧ Step D w D (w.alloc o) ∧ Free D (w.alloc o) w.heap.size ∧ (w.alloc o).heap[w.heap.size]? = some o := by
  obtain ⟨h1, h2, h3⟩ := h.below (below_new w o)
  exact ⟨h1, h2, h3 _ (Nat.le_refl _) (by simp), heap_alloc_new w o⟩
theorem IsTm.step {v : Value} {t : Tm} (h : IsTm w (Free D w) v t) (hs : Step D w D' w') : IsTm w' (Free D' w') v t := h.imp (fun b hb => (hs.blk b hb).1) fun b hb _ => (hs.blk b hb).2
theorem IsSl.step {v : Value} {t : List Tm} (h : IsSl w (Free D w) v t) (hs : Step D w D' w') : IsSl w' (Free D' w') v t := h.imp (fun b hb => (hs.blk b hb).1) fun b hb _ => (hs.blk b hb).2
/-- a row that isn't the store's -/
def RowF (D : Nat → Prop) (w : World) (r : Nat) (o : Obj) : Prop := Free D w r ∧ w.heap[r]? = some o
theorem RowF.step {r : Nat} {o : Obj} (h : RowF D w r o) (hs : Step D w D' w') : RowF D' w' r o := ⟨(hs.blk r h.1).1, (hs.blk r h.1).2.trans h.2⟩
/-- a term that was made just now -/
theorem Law8.made (h : Law8 w0 p S D w) (hb : Below w.heap.size w w') {v : Value} {t : Tm} (hi : IsTm w' (fun b => w.heap.size ≤ b) v t) : IsTm w' (Free D w') v t :=
  hi.low.imp (fun b hb' => (h.below hb).2.2 b hb'.1 hb'.2) fun _ _ _ => rfl
/-! ### What each step leaves -/
def LawDid (w0 : World) (p : Nat) (D : Nat → Prop) (w : World) (S' : Sto) (w' : World) : Prop := ∃ D', Law8 w0 p S' D' w' ∧ Step D w D' w'
theorem law_New (w0 w : World) (hb : Below w0.heap.size w0 w) (n : Int) (h1 : 1 ≤ n) (h2 : n ≤ 16777216) :
    Calls Try.prog 16 #[.int .i64 n] w fun e w' => e = .returned (.tuple #[.pointer (some ⟨w.heap.size, 0, none⟩), .int .i64 0]) ∧ ∃ D', Law8 w0 w.heap.size ⟨n, [], []⟩ D' w' ∧ Below w.heap.size w w' := by
  refine (sto_New n w h1 h2).mono ?_
  rintro e w' ⟨rfl, hs, hb'⟩
  exact ⟨rfl, _, ⟨hs, fun b e => by rw [e]; exact hb.size, hb.trans (hb'.mono hb.size)⟩, hb'⟩
theorem law_Put (h : Law8 w0 p S D w) (hI : Inv S) {t : Tm} {v : Value} {P : Nat → Prop} (ht : IsTm w P v t) (hP : ∀ b, P b → ¬ D b) (hm : MayPut S [] t) (hs : t.size ≤ 2000) :
    Calls Try.prog 17 #[.pointer (some ⟨p, 0, none⟩), v, .map none] w fun e w' => e = .returned (.tuple #[.int .i64 (S.cells.length : Nat), .int .i64 0]) ∧ LawDid w0 p D w (putS S [] t) w' := by
  refine (sto_Put_ok w h.sto t v none P [] (by omega) ht (.inl ⟨rfl, rfl⟩) (fun b e => by cases e) hP (by have := hI.small; omega) hI.room0 hI.room hm.chk hm.cnt hm.fit).mono ?_
  intro e w' hp
  obtain ⟨rfl, hd⟩ := put_nil hp ⟨rfl, put_base' S t⟩
  exact ⟨rfl, h.did hd⟩
theorem law_Fresh (h : Law8 w0 p S D w) (hI : Inv S) (hr : (S.cells.length : Int) < S.room) :
    Calls Try.prog 21 #[.pointer (some ⟨p, 0, none⟩)] w fun e w' => e = .returned (.tuple #[.int .i64 S.cells.length, .int .i64 0]) ∧ LawDid w0 p D w (freshS S) w' := by
  refine (sto_Fresh w h.sto (by have := hI.small; omega) hr).mono ?_
  rintro e w' ⟨rfl, hd⟩
  exact ⟨rfl, h.did hd⟩
open Classical in
/-- what Bind answers -/
noncomputable def bindE (S : Sto) (x y : Int) : Int := if ¬ (0 ≤ x ∧ x < S.cells.length) ∨ ¬ (0 ≤ y ∧ y < S.cells.length) then 2 else if (cellF S x.toNat).k = 1 then 0 else 2
open Classical in
/-- what Bind leaves -/
noncomputable def bindW (S : Sto) (x y : Int) : Sto := if ¬ (0 ≤ x ∧ x < S.cells.length) ∨ ¬ (0 ≤ y ∧ y < S.cells.length) then S else if (cellF S x.toNat).k = 1 ∧ fol S x.toNat ≠ fol S y.toNat then bindS S (fol S x.toNat) (fol S y.toNat) else S
theorem law_Bind (h : Law8 w0 p S D w) (hI : Inv S) (x y : Int) :
    Calls Try.prog 22 #[.pointer (some ⟨p, 0, none⟩), .int .i64 x, .int .i64 y] w fun e w' => e = .returned (.int .i64 (bindE S x y)) ∧ LawDid w0 p D w (bindW S x y) w' := by
  by_cases hn : ¬ (0 ≤ x ∧ x < S.cells.length) ∨ ¬ (0 ≤ y ∧ y < S.cells.length)
  · refine (sto_Bind_no w h.sto x y hn).mono ?_
    rintro e w' ⟨rfl, rfl⟩
    exact ⟨by unfold bindE; rw [if_pos hn], by unfold bindW; rw [if_pos hn]; exact ⟨D, h, Step.refl _ _⟩⟩
  · obtain ⟨⟨h0, h1⟩, h2, h3⟩ : (0 ≤ x ∧ x < S.cells.length) ∧ (0 ≤ y ∧ y < S.cells.length) := by
      constructor
      · exact Classical.byContradiction fun e => hn (.inl e)
      · exact Classical.byContradiction fun e => hn (.inr e)
    obtain ⟨x, rfl⟩ : ∃ n : Nat, x = n := ⟨x.toNat, by omega⟩
    obtain ⟨y, rfl⟩ : ∃ n : Nat, y = n := ⟨y.toNat, by omega⟩
    have eb : bindE S x y = if (cellF S x).k = 1 then 0 else 2 := by unfold bindE; rw [if_neg hn]; rfl
    have ew : bindW S x y = if (cellF S x).k = 1 ∧ fol S x ≠ fol S y then bindS S (fol S x) (fol S y) else S := by unfold bindW; rw [if_neg hn]; rfl
    rw [eb, ew]
    obtain ⟨f1, c1, g1⟩ := hI.stoIn.fol (x := x) (by omega)
    obtain ⟨f2, c2, g2⟩ := hI.stoIn.fol (x := y) (by omega)
    have gk : (S.cells[fol S x]'(c1.end_.1)).k = (cellF S x).k := by
      obtain ⟨h, e⟩ := List.getElem?_eq_some_iff.1 g1
      rw [e]
    by_cases hc : (cellF S x).k = 1 ∧ fol S x ≠ fol S y
    · rw [if_pos hc, if_pos hc.1]
      refine (sto_Bind w h.sto hI.stoOk f1 f2 x y _ _ c1 c2 (gk.trans hc.1) hc.2).mono ?_
      rintro e w' ⟨rfl, hd⟩
      exact ⟨rfl, h.did hd⟩
    · rw [if_neg hc]
      refine (sto_Bind_id w h.sto f1 f2 x y _ _ c1 c2 fun e => Classical.byContradiction fun e2 => hc ⟨gk.symm.trans e, e2⟩).mono ?_
      rintro e w' ⟨rfl, rfl⟩
      exact ⟨by rw [gk], D, h, Step.refl _ _⟩
theorem law_Undo (h : Law8 w0 p S D w) (hI : Inv S) (m : Int) :
    Calls Try.prog 24 #[.pointer (some ⟨p, 0, none⟩), .int .i64 m] w fun e w' => e = .returned (.tuple #[]) ∧ LawDid w0 p D w (undoS S m) w' := by
  refine (sto_Undo w h.sto hI.bndOk m).mono ?_
  rintro e w' ⟨rfl, hs, hk⟩
  exact ⟨rfl, D, h.kept hs hk⟩
theorem law_Cut (h : Law8 w0 p S D w) (hI : Inv S) (n : Int) :
    Calls Try.prog 23 #[.pointer (some ⟨p, 0, none⟩), .int .i64 n] w fun e w' => e = .returned (.int .i64 (cutE S n)) ∧ LawDid w0 p D w (cutS S n) w' := by
  refine (sto_Cut w h.sto (by have := hI.small; omega) (by have := hI.small; have := hI.bsmall; omega) n).mono ?_
  rintro e w' ⟨rfl, hs, hk⟩
  exact ⟨rfl, D, h.kept hs hk⟩
theorem law_Get (h : Law8 w0 p S D w) (hI : Inv S) (x : Nat) {t : Tm} (ht : Tr S t x) (hs : t.size ≤ 2000) (hx : x < S.cells.length) :
    Calls Try.prog 20 #[.pointer (some ⟨p, 0, none⟩), .int .i64 x] w fun e w' => ∃ a c, e = .returned (.tuple #[aggT t a c, .int .i64 0]) ∧ Law8 w0 p S D w' ∧ Step D w D w' ∧ IsTm w' (Free D w') (aggT t a c) t := by
  refine (sto_Get_ok w hI.stoIn h.sto x hx t _ (get_of_tr ht hs)).mono ?_
  rintro e w' ⟨a, c, rfl, hi, hb⟩
  obtain ⟨h1, h2, h3⟩ := h.below hb
  exact ⟨a, c, rfl, h1, h2, h.made hb hi⟩
end
set_option maxRecDepth 100000 in
set_option maxHeartbeats 4000000 in
theorem sto_Get_no {S : Sto} {D : Nat → Prop} {p : Nat} (w : World) (hS : StoAt w D p S) (x : Int) (hx : ¬ (0 ≤ x ∧ x < S.cells.length)) :
    Calls Try.prog 20 #[.pointer (some ⟨p, 0, none⟩), .int .i64 x] w fun e w' => e = .returned (.tuple #[aggT zeroTm none 0, .int .i64 2]) ∧ Below w.heap.size w w' := by
  have hb0 := below_new w (.cells #[.int .i64 0, .int .i64 0, .string ⟨#[]⟩, .slice none 0 0] 33 (0, 0))
  have hn0 := heap_alloc_new w (.cells #[.int .i64 0, .int .i64 0, .string ⟨#[]⟩, .slice none 0 0] 33 (0, 0))
  have HS := Lib.hid (hS.below hb0)
  have HB := Lib.hid hb0
  have HN := Lib.hid hn0
  have HX := Lib.hid (dec_no hx)
  clear hb0 hn0 hx hS
  go_enter Try.func20, Try.ntmps20
  go_wp2_with fail
  refine (sto_there _ HS.out x).mono ?_
  rintro e1 w1 ⟨rfl, rfl⟩
  rw [HX.out]
  go_wp2_with (with_reducible show wpList _ _ _ (⟨none, .store _ (.tmp 4) _, _, _, _, _⟩ :: _) _ _
               refine wpList_store_row rfl 33 (.tmp 4) (.tmp 18) rfl w.heap.size #[.int .i64 0, .int .i64 0, .string ⟨#[]⟩, .slice none 0 0] rfl rfl _ _ HN.out size_term rfl (one4 _ _ _ _ _ _) ?_)
  have hz := setRow_heap _ w.heap.size _ #[.int .i64 0, .int .i64 0, .string ⟨#[]⟩, .slice none 0 0] _ _ HN.out
  exact bodyPost_ret (v := .tuple #[aggT zeroTm none 0, .int .i64 2]) (Push.results_cell_tmp Try.results20 _ _ w.heap.size _ _ _ _ _ rfl (by simp) hz Try.underlying33 rfl (by kernel_rfl)) rfl ⟨rfl, below_setRow HB.out (Nat.le_refl _) _⟩
theorem law_Get_no {w0 w : World} {p : Nat} {S : Sto} {D : Nat → Prop} (h : Law8 w0 p S D w) (x : Int) (hx : ¬ (0 ≤ x ∧ x < S.cells.length)) :
    Calls Try.prog 20 #[.pointer (some ⟨p, 0, none⟩), .int .i64 x] w fun e w' => e = .returned (.tuple #[aggT zeroTm none 0, .int .i64 2]) ∧ Law8 w0 p S D w' ∧ Step D w D w' := by
  refine (sto_Get_no w h.sto x hx).mono ?_
  rintro e w' ⟨rfl, hb⟩
  exact ⟨rfl, (h.below hb).1, (h.below hb).2.1⟩
end Go.Proofs.Ytoklbeogmcdgaaa.Tms
namespace Go.Proofs.Ytoklbeogmcdgaaa.Tms
open Go Go.RowKit Go.Proofs.Ytoklbeogmcdgaaa.Reg Go.Proofs.Ytoklbeogmcdgaaa.Rws Go.Proofs.Ytoklbeogmcdgaaa.Maps
set_option linter.unusedVariables false
set_option linter.unusedSimpArgs false

/-- no cell is bound -/
def NoLk (S : Sto) : Prop := ∀ c ∈ S.cells, c.lk = -1
theorem NoLk.put {S : Sto} (h : NoLk S) {M : List (Int × Int)} {t : Tm} (hp : MayPut S M t) : NoLk (putS S M t) := by
  intro c hc
  rcases List.mem_append.1 hc with hc | hc
  · exact h c hc
  · obtain ⟨d, hd, he⟩ := fixTop_mem hc
    rw [he.2.2.2.2]
    exact (hp.ok.2.1 d hd).2
theorem NoLk.fresh {S : Sto} (h : NoLk S) : NoLk (freshS S) := by
  intro c hc
  rcases List.mem_append.1 hc with hc | hc
  · exact h c hc
  · simp only [List.mem_singleton] at hc
    rw [hc]
theorem NoLk.fol {S : Sto} (h : NoLk S) {x : Nat} (hx : x < S.cells.length) : Tms.fol S x = x := fol_root (List.getElem?_eq_getElem hx) (h _ (List.getElem_mem hx))
def ct0 : Sto := ⟨1000, [], []⟩
def ct1 (t : Tm) : Sto := putS ct0 [] t
def ct2 (t u : Tm) : Sto := putS (ct1 t) [] u
def ct3 (t u : Tm) : Sto := freshS (ct2 t u)
def ct4 (t u : Tm) : Sto := bindS (ct3 t u) (ct2 t u).cells.length 0
structure CutFacts (t u : Tm) : Prop where
  i0 : Inv ct0
  i1 : Inv (ct1 t)
  i2 : Inv (ct2 t u)
  i3 : Inv (ct3 t u)
  i4 : Inv (ct4 t u)
  m1 : MayPut ct0 [] t
  m2 : MayPut (ct1 t) [] u
  n1 : 0 < (ct1 t).cells.length
  n2 : (ct1 t).cells.length < (ct2 t u).cells.length
  n3 : ((ct2 t u).cells.length : Int) < (ct2 t u).room
  t1 : Tr (ct1 t) (backT ct0 t) 0
  t2 : Tr (ct2 t u) (backT ct0 t) 0
  be : bindE (ct3 t u) (ct2 t u).cells.length (0 : Nat) = 0
  bw : bindW (ct3 t u) (ct2 t u).cells.length (0 : Nat) = ct4 t u
  c4 : cutE (ct4 t u) (ct1 t).cells.length = 14
  s4 : cutS (ct4 t u) (ct1 t).cells.length = ct4 t u
  un : undoS (ct4 t u) 0 = ct3 t u
  c3 : cutE (ct3 t u) (ct1 t).cells.length = 0
  s3 : cutS (ct3 t u) (ct1 t).cells.length = ct1 t
theorem cut_facts (t u : Tm) (ht : checkT t = 0) (hu : checkT u = 0) (hst : t.size ≤ 421) (hsu : u.size ≤ 421) : CutFacts t u := by
  have i0 : Inv ct0 := Inv.new 1000 (by decide) (by decide)
  have m1 : MayPut ct0 [] t := may_put0 ht (by show ((0 : Nat) : Int) + t.size ≤ 1000; omega)
  have i1 : Inv (ct1 t) := i0.put m1
  have l1 : (ct1 t).cells.length = (putR ct0 [] t).2.1.length := by rw [ct1, putS_len]; simp [ct0]
  have g1 : (ct1 t).cells.length ≤ t.size := by rw [l1]; exact putT_len _ _ _ _ _
  have n1 : 0 < (ct1 t).cells.length := by rw [l1]; exact put_some _ _
  have m2 : MayPut (ct1 t) [] u := may_put0 hu (by show ((ct1 t).cells.length : Int) + u.size ≤ 1000; omega)
  have i2 : Inv (ct2 t u) := i1.put m2
  have l2 : (ct2 t u).cells.length = (ct1 t).cells.length + (putR (ct1 t) [] u).2.1.length := putS_len _ _ _
  have g2 : (putR (ct1 t) [] u).2.1.length ≤ u.size := putT_len _ _ _ _ _
  have p2 : 0 < (putR (ct1 t) [] u).2.1.length := put_some _ _
  have n2 : (ct1 t).cells.length < (ct2 t u).cells.length := by omega
  have n3 : ((ct2 t u).cells.length : Int) < (ct2 t u).room := by show _ < (1000 : Int); omega
  have i3 : Inv (ct3 t u) := i2.fresh n3
  have k0 : NoLk ct0 := fun c hc => by simp [ct0] at hc
  have k1 : NoLk (ct1 t) := k0.put m1
  have k2 : NoLk (ct2 t u) := k1.put m2
  have k3 : NoLk (ct3 t u) := k2.fresh
  have l3 : (ct3 t u).cells.length = (ct2 t u).cells.length + 1 := by simp [ct3, freshS, addS]
  have hv : (ct2 t u).cells.length < (ct3 t u).cells.length := by omega
  have h0 : 0 < (ct3 t u).cells.length := by omega
  have gv : (ct3 t u).cells[(ct2 t u).cells.length]? = some ⟨1, 0, ⟨#[]⟩, [], -1, lastTop (ct2 t u).cells⟩ := by simp [ct3, freshS, addS]
  have kv : ((ct3 t u).cells[(ct2 t u).cells.length]'hv).k = 1 := by
    obtain ⟨h, e⟩ := List.getElem?_eq_some_iff.1 gv
    rw [e]
  have fv : fol (ct3 t u) (ct2 t u).cells.length = (ct2 t u).cells.length := k3.fol hv
  have f0 : fol (ct3 t u) 0 = 0 := k3.fol h0
  have cv : (cellF (ct3 t u) (ct2 t u).cells.length).k = 1 := by unfold cellF; rw [fv, gv]; rfl
  have i4 : Inv (ct4 t u) := i3.bind hv h0 (k3 _ (List.getElem_mem _)) (k3 _ (List.getElem_mem _)) kv (by omega)
  have hnb : ¬ (¬ ((0 : Int) ≤ ((ct2 t u).cells.length : Int) ∧ ((ct2 t u).cells.length : Int) < (ct3 t u).cells.length) ∨ ¬ ((0 : Int) ≤ ((0 : Nat) : Int) ∧ ((0 : Nat) : Int) < (ct3 t u).cells.length)) := by omega
  have tA : AgreeAt (ct1 t) ct0.cells.length (putR ct0 [] t).2.1 := agree_put ct0 t
  have t1 : Tr (ct1 t) (backT ct0 t) 0 := by
    have := put_tr0 (check_may ht) tA
    rwa [put_base'] at this
  have t2 : Tr (ct2 t u) (backT ct0 t) 0 := by
    have := put_tr0 (check_may ht) (AgreeAt.plus (m := fixTop (lastTop (ct1 t).cells) (putR (ct1 t) [] u).2.1) tA)
    rwa [put_base'] at this
  have l4 : (ct4 t u).cells.length = (ct3 t u).cells.length := by rw [ct4, bindS_cells hv]; simp
  have tk : (ct3 t u).cells.take (ct1 t).cells.length = (ct1 t).cells := by
    show (((ct1 t).cells ++ fixTop (lastTop (ct1 t).cells) (putR (ct1 t) [] u).2.1) ++ [_]).take (ct1 t).cells.length = _
    rw [List.append_assoc, List.take_left]
  have to1 : TopOk (ct1 t) := TopOk.put (fun c hc => by simp [ct0] at hc) m1
  have lt1 : lastTop (ct1 t).cells < (ct1 t).cells.length := lastTop_lt to1 (by omega)
  have c4 : cutE (ct4 t u) (ct1 t).cells.length = 14 := by
    have hb : lastB (ct4 t u).bonds = max ((ct2 t u).cells.length : Int) ((0 : Nat) : Int) := rfl
    unfold cutE
    rw [if_neg (by rw [l4]; omega), if_pos (by rw [hb]; omega)]
  have c3 : cutE (ct3 t u) (ct1 t).cells.length = 0 := by
    have hb : lastB (ct3 t u).bonds = -1 := rfl
    unfold cutE
    rw [if_neg (by omega), if_neg (by rw [hb]; omega), Int.toNat_natCast, tk, if_neg (by omega)]
  refine ⟨i0, i1, i2, i3, i4, m1, m2, n1, n2, n3, t1, t2, ?_, ?_, c4, ?_, ?_, c3, ?_⟩
  · unfold bindE
    rw [if_neg hnb, Int.toNat_natCast, if_pos cv]
  · unfold bindW
    rw [if_neg hnb, Int.toNat_natCast, Int.toNat_natCast, fv, f0, if_pos ⟨cv, by omega⟩]
    rfl
  · unfold cutS
    rw [if_neg (by rw [c4]; decide)]
  · show undoN 1 (ct4 t u) = _
    show looseS (bindS (ct3 t u) _ 0) = _
    exact loose_bind hv (k3 _ (List.getElem_mem _))
  · unfold cutS
    rw [if_pos c3, Int.toNat_natCast, tk]
    rfl
mutual
theorem sameT_refl : ∀ t : Tm, sameT t t = true
  | .mk k n s a => by have := sameL_refl a; simp [sameT, this]
theorem sameL_refl : ∀ l : List Tm, sameL l l = true
  | [] => by simp [sameL]
  | t :: l => by have := sameT_refl t; have := sameL_refl l; simp [sameL, *]
end
end Go.Proofs.Ytoklbeogmcdgaaa.Tms
